/- Joined: Bf24. -/
import Derived.Test.YtecnijnmgdfdhaaGreatYBfG
/- Law08: BufferDrops. -/
namespace Go.Proofs.YtecnijnmgdfdhaaGreat
namespace Bf
open Go.RowKit Tr Tb
open Ky (less)
set_option maxHeartbeats 16000000 in
set_option maxRecDepth 100000 in
theorem bufferDrops_walk (m0 : Int) (a : Option Addr) (c : Nat) (l : List OpT) (q : Option Addr) (d : Nat) (m : List OpT) (key : Str) (w : World) (hl : GoodOps w a c l) (hm : GoodOps w q d m) :
    Calls Tryz.prog 6 #[.int .i64 m0, .agg #[.slice a l.length c, .slice q m.length d], .string ⟨key.toArray⟩] w (Yes w) := by
  have HA := Lib.hid (fun W => awakeB_any W)
  have hb0 := al1 w (.cells #[.slice a l.length c, .slice q m.length d] 24)
  obtain ⟨W, hW⟩ : ∃ W, w.alloc (.cells #[.slice a l.length c, .slice q m.length d] 24) = W := ⟨_, rfl⟩
  have x0 : W.cell? ⟨w.heap.size, 0, none⟩ = some (.slice a l.length c) := by rw [← hW]; simp
  have x1 : W.cell? ⟨w.heap.size, 1, none⟩ = some (.slice q m.length d) := by rw [← hW]; simp
  rw [hW] at hb0
  have HX : Hid (∀ V, Below W.heap.size W V → V.cell? ⟨w.heap.size, 0, none⟩ = some (.slice a l.length c) ∧ V.cell? ⟨w.heap.size, 1, none⟩ = some (.slice q m.length d)) := Lib.hid (fun V hb => ⟨old_cell x0 hb, old_cell x1 hb⟩)
  have HEnd : Hid (∀ V, Below W.heap.size W V → Below w.heap.size w V) := Lib.hid (fun V hb => hb0.trans (hb.mono hb0.size))
  have HL := Lib.hid (hl.later hb0)
  have HM := Lib.hid (hm.later hb0)
  have HF := Lib.hid (fun V (hb : Below W.heap.size W V) => few8_any a c l q d m V (HL.out.later hb) (HM.out.later hb))
  have HRt := Lib.hid (fun W => right_any m0 W)
  have hcap := HM.out.rd.cap
  have hle := HM.out.rd.le
  unfold maxLen at hcap
  clear hb0 hl hm
  by_cases hmo : okMost m0 = true
  case neg =>
    have hm2 : okMost m0 = false := by simpa using hmo
    rw [hm2] at HRt
    clear hmo hm2
    go_enter Tryz.func6, Tryz.ntmps6
    go_wp2_with (first | (go_at_call 10; refine (HRt.out _).mono ?_; rintro e V1 ⟨rfl, rfl⟩) | (go_at_call 12; refine (HA.out _).mono ?_; rintro e V9 ⟨rfl, hb⟩; have H9 := Lib.hid ((Below.refl W.heap.size W).trans (hb.mono (Below.refl W.heap.size W).size)); clear hb))
    go_ret
    exact ⟨rfl, HEnd.out _ H9.out⟩
  rw [hmo] at HRt
  have hm3 : 1 ≤ m0 ∧ m0 ≤ 1024 := by unfold okMost at hmo; simpa using hmo
  obtain ⟨most, rfl⟩ : ∃ n : Nat, m0 = n := ⟨m0.toNat, by omega⟩
  have hmm : 1 ≤ most ∧ most ≤ 1024 := by omega
  clear hmo hm3
  by_cases hf : fewT l ∧ fewT m
  case neg =>
    have hff : decide (fewT l ∧ fewT m) = false := by simpa using hf
    rw [hff] at HF
    clear hf hff hmm
    go_enter Tryz.func6, Tryz.ntmps6
    go_wp2_with (first | (go_at_call 10; refine (HRt.out _).mono ?_; rintro e V1 ⟨rfl, rfl⟩) | (go_at_call 11; refine (HF.out _ (Below.refl _ _)).mono ?_; rintro e V2 ⟨rfl, hb⟩; have H2 := Lib.hid hb; obtain ⟨x0, x1⟩ := HX.out _ hb; clear hb) | (go_at_call 12; refine (HA.out _).mono ?_; rintro e V9 ⟨rfl, hb⟩; have H9 := Lib.hid ((H2.out).trans (hb.mono (H2.out).size)); clear hb))
    go_ret
    exact ⟨rfl, HEnd.out _ H9.out⟩
  have hff : decide (fewT l ∧ fewT m) = true := by simpa using hf
  have hml : m.length ≤ 100 := hf.2.2
  rw [hff] at HF
  clear hf hff
  by_cases hk : key.length ≤ 100
  case neg =>
    have hk2 : (100 : Int) < (key.length : Int) := by omega
    clear hmm
    go_enter Tryz.func6, Tryz.ntmps6
    go_wp2_with (first | (go_at_call 10; refine (HRt.out _).mono ?_; rintro e V1 ⟨rfl, rfl⟩) | (go_at_call 11; refine (HF.out _ (Below.refl _ _)).mono ?_; rintro e V2 ⟨rfl, hb⟩; have H2 := Lib.hid hb; obtain ⟨x0, x1⟩ := HX.out _ hb; clear hb) | (go_at_call 12; refine (HA.out _).mono ?_; rintro e V9 ⟨rfl, hb⟩; have H9 := Lib.hid ((H2.out).trans (hb.mono (H2.out).size)); clear hb))
    go_ret
    exact ⟨rfl, HEnd.out _ H9.out⟩
  have hk2 : ¬ (100 : Int) < (key.length : Int) := by omega
  have HMd := Lib.hid (fun V (hb : Below W.heap.size W V) => own_made most hmm a c l ((HL.out.later hb).rd) HL.out.ok ((Own.nil W).later hb))
  obtain ⟨L, hL⟩ : ∃ L, Tb.runT most l = L := ⟨_, rfl⟩
  rw [hL] at HMd
  have HNw := Lib.hid (fun tb r V (h : Own W.heap.size W [TabR tb most 2 L, DocR r most L] V) => own_bufMake tb h)
  clear hL hmm hk
  go_enter Tryz.func6, Tryz.ntmps6
  go_wp2_with (first
    | (go_at_call 10; refine (HRt.out _).mono ?_; rintro e V1 ⟨rfl, rfl⟩)
    | (go_at_call 11; refine (HF.out _ (Below.refl _ _)).mono ?_; rintro e V2 ⟨rfl, hb⟩; have H2 := Lib.hid hb; obtain ⟨x0, x1⟩ := HX.out _ hb; clear hb)
    | (go_at_call 13; refine (HMd.out _ H2.out).mono ?_; rintro e V3 ⟨tb, r, rfl, hb3, h3⟩; have H3 := Lib.hid h3; clear h3 hb3)
    | (go_at_call 14; refine (HNw.out _ _ _ H3.out).mono ?_; rintro e V4 ⟨bb, rfl, h4⟩; have H4 := Lib.hid h4; clear h4))
  clear x0 x1
  go_loopw [11] (fun i wr => ∃ (j : Nat), j ≤ m.length ∧ i = .int .i64 j ∧ Hid (Own W.heap.size W [BufR bb tb (runB most L (m.take j)), TabR tb most 2 L, DocR r most L] wr)) (fun i _ => m.length - (intOf i).toNat)
  case atStart => exact ⟨0, by omega, rfl, H4⟩
  case round =>
    obtain ⟨j, hj, rfl, HJ⟩ := hrel
    have k0 : (0 : Int) ≤ (j : Int) := by omega
    obtain ⟨x0, x1⟩ := HX.out _ HJ.out.low
    by_cases hlt : j < m.length
    · obtain ⟨⟨ask, k, r0, r1, r2, r3⟩, hx⟩ : ∃ x, m[j]? = some x := ⟨_, List.getElem?_eq_getElem hlt⟩
      obtain ⟨lb, lo, rfl, z0, z1, z2, z3, z4, z5⟩ := op_at HM.out.rd hx
      have y0 := old_cell z0 HJ.out.low
      have y1 := old_cell z1 HJ.out.low
      have y2 := old_cell z2 HJ.out.low
      have y3 := old_cell z3 HJ.out.low
      have y4 := old_cell z4 HJ.out.low
      have y5 := old_cell z5 HJ.out.low
      have k1 : (j : Int) < (m.length : Int) := by omega
      have hwl : (runB most L (m.take j)).length ≤ 100000 := by
        have h1 := runB_len (most := most) (L := L) (m.take j)
        have h2 := List.length_take_le j m
        omega
      have HIn := Lib.hid (HM.out.ok _ (List.mem_of_getElem? hx)).2
      have HSt := Lib.hid (runB_succ (most := most) (L := L) hx)
      have HJ2 := Lib.hid (HJ.out.later (al1 wr (.cells #[.int .i64 ask, .string ⟨k.toArray⟩, .int .i64 r0, .int .i64 r1, .int .i64 r2, .int .i64 r3] 43)))
      have HWl := Lib.hid hwl
      clear hx z0 z1 z2 z3 z4 z5 hwl
      by_cases h0 : ask = 0
      · subst h0
        have HP : Hid (Calls Tryz.prog 23 #[ptrV bb, .string ⟨k.toArray⟩, .agg #[.int .i64 r0, .int .i64 r1, .int .i64 r2, .int .i64 r3]] _ _) := Lib.hid (own_bufPut k (r0, r1, r2, r3) HIn.out HWl.out HJ2.out)
        go_wp2_with (go_at_call 23; refine HP.out.mono ?_; rintro e V5 ⟨rfl, h5⟩; have H5 := Lib.hid h5; clear h5)
        go_roundw
        case rel => exact ⟨j + 1, by omega, by go_num, by rw [HSt.out]; exact H5⟩
        case measure => simp [intOf]; omega
      · have e0 : decide (ask = 0) = false := by simpa using h0
        by_cases h1 : ask = 1
        · subst h1
          have HP := Lib.hid (own_bufDel k HWl.out HJ2.out)
          go_wp2_with (go_at_call 24; refine HP.out.mono ?_; rintro e V5 ⟨rfl, h5⟩; have H5 := Lib.hid h5; clear h5)
          go_roundw
          case rel => exact ⟨j + 1, by omega, by go_num, by rw [HSt.out]; exact H5⟩
          case measure => simp [intOf]; omega
        · have e1 : decide (ask = 1) = false := by simpa using h1
          have HE : Hid (stepB most L (ask, k, r0, r1, r2, r3) (runB most L (m.take j)) = runB most L (m.take j)) := Lib.hid (by unfold stepB; rw [if_neg h0, if_neg h1])
          go_wp2
          go_roundw
          case rel => exact ⟨j + 1, by omega, by go_num, by rw [HSt.out, HE.out]; exact HJ2⟩
          case measure => simp [intOf]; omega
    · obtain rfl : j = m.length := by omega
      have k1 : ¬ (m.length : Int) < (m.length : Int) := by omega
      rw [List.take_length] at HJ
      obtain ⟨M, hM⟩ : ∃ M, runB most L m = M := ⟨_, rfl⟩
      rw [hM] at HJ
      have HDr := Lib.hid (own_bufDrop HJ.out)
      obtain ⟨⟨g0, g1, g2, g3⟩, hgr⟩ : ∃ g, getR key L = g := ⟨_, rfl⟩
      obtain ⟨pe, hpe⟩ : ∃ pe, getE key L = pe := ⟨_, rfl⟩
      obtain ⟨N, hN⟩ : ∃ N, L.length = N := ⟨_, rfl⟩
      have hq := Rw.eqlRow g0 g1 g2 g3 g0 g1 g2 g3 true (by simp)
      have kd : decide (pe = pe) = true := by simp
      have kn : decide ((N : Int) = (N : Int)) = true := by simp
      have Q1 : Hid (∀ (X : List Rs) V, Own W.heap.size W (BufR bb tb [] :: TabR tb most 2 L :: X) V → Calls Tryz.prog 28 #[ptrV bb, .string ⟨key.toArray⟩] V fun e V2 => e = .returned (.tuple #[.agg #[.int .i64 g0, .int .i64 g1, .int .i64 g2, .int .i64 g3], .int .i64 pe]) ∧ Below V.heap.size V V2) := Lib.hid (fun X V h => by
        have := own_bufGet key h
        rw [show overT [] L = L from rfl, hgr, hpe] at this
        exact this)
      have Q2 : Hid (∀ (X : List Rs) V, Own W.heap.size W (BufR bb tb [] :: TabR tb most 2 L :: X) V → Calls Tryz.prog 29 #[ptrV tb, .string ⟨key.toArray⟩] V fun e V2 => e = .returned (.tuple #[.agg #[.int .i64 g0, .int .i64 g1, .int .i64 g2, .int .i64 g3], .int .i64 pe]) ∧ Below V.heap.size V V2) := Lib.hid (fun X V h => by
        have := own_tabGet key h.swap
        rw [hgr, hpe] at this
        exact this)
      have Q3 : Hid (∀ (X : List Rs) V, Own W.heap.size W (BufR bb tb [] :: TabR tb most 2 L :: DocR r most L :: X) V → Calls Tryz.prog 22 #[ptrV tb, ptrV r] V fun e V2 => e = .returned (.bool true) ∧ Below V.heap.size V V2) := Lib.hid (fun X V h => own_sameD h.drop)
      have Q4 : Hid (∀ (X : List Rs) V, Own W.heap.size W (BufR bb tb [] :: TabR tb most 2 L :: X) V → Calls Tryz.prog 21 #[ptrV bb, .slice none 0 0] V fun e V2 => e = .returned (.bool true) ∧ Own W.heap.size W (BufR bb tb [] :: TabR tb most 2 L :: X) V2) := Lib.hid (fun X V h => own_written (la := none) (lk := 0) (by simp) h (fun U _ => Rd.nilSlice _ 6))
      have Q5 : Hid (∀ (X : List Rs) V, Own W.heap.size W (BufR bb tb [] :: TabR tb most 2 L :: X) V → Calls Tryz.prog 17 #[ptrV bb] V fun e V2 => e = .returned (.int .i64 (N : Nat)) ∧ Below V.heap.size V V2) := Lib.hid (fun X V h => by
        have := own_bufLen (by simp) h
        rw [show overT [] L = L from rfl, hN] at this
        exact this)
      have Q6 : Hid (∀ (X : List Rs) V, Own W.heap.size W (BufR bb tb [] :: TabR tb most 2 L :: X) V → Calls Tryz.prog 26 #[ptrV tb] V fun e V2 => e = .returned (.int .i64 (N : Nat)) ∧ V = V2) := Lib.hid (fun X V h => by
        have := own_tabLen h.swap
        rw [hN] at this
        exact this)
      have Q7 : Hid (∀ (X : List Rs) V, Own W.heap.size W (BufR bb tb [] :: TabR tb most 2 L :: X) V → Calls Tryz.prog 25 #[ptrV bb] V fun e V2 => e = .returned (.int .i64 0) ∧ Own W.heap.size W (BufR bb tb [] :: TabR tb most 2 L :: X) V2) := Lib.hid (fun X V h => by
        have ok := own_tabOk h.swap
        have hn : ¬ most < (overT [] L).length := by rw [show overT [] L = L from rfl]; have := ok.len; omega
        have := own_bufApply (by simp) h
        have e1 : apE most [] L = 0 := by unfold apE; rw [if_neg hn]
        have e2 : apW most [] L = [] := by unfold apW; rw [if_neg hn]
        have e3 : apL most [] L = L := by unfold apL; rw [if_neg hn]; rfl
        rw [e1, e2, e3] at this
        exact this)
      clear hM hgr hpe hN
      have tk1 : True := trivial
      go_wp2_with (first
        | (go_at_call 38; refine HDr.out.mono ?_; rintro e V1 ⟨rfl, h1⟩; have J1 := Lib.hid h1; clear h1)
        | (go_at_call 28; refine (Q1.out _ _ J1.out).mono ?_; rintro e Va ⟨rfl, hb⟩; have J2 := Lib.hid (((own_newRow (J1.out.later hb) (g0, g1, g2, g3) 41).perm (List.perm_middle (l₁ := [_, _, _])).symm)); clear hb)
        | (go_at_call 29; refine (Q2.out _ _ J2.out).mono ?_; rintro e Vb ⟨rfl, hb⟩; have J3 := Lib.hid (((own_newRow (J2.out.later hb) (g0, g1, g2, g3) 41).perm (List.perm_middle (l₁ := [_, _, _, _])).symm)); clear hb)
        | (go_at_call 22; have _t := tk1; refine (Q3.out _ _ J3.out).mono ?_; rintro e Vc ⟨rfl, hb⟩; have J4 := Lib.hid (J3.out.later hb); clear hb tk1 _t)
        | (go_at_call 21; refine (Q4.out _ _ J4.out).mono ?_; rintro e Vd ⟨rfl, h5⟩; have J5 := Lib.hid h5; clear h5)
        | (go_at_call 17; refine (Q5.out _ _ J5.out).mono ?_; rintro e Ve ⟨rfl, hb⟩; have J6 := Lib.hid (J5.out.later hb); obtain ⟨p0, p1, p2, p3⟩ := own_rowM (p := Va.heap.size) (r := (g0, g1, g2, g3)) J6.out (by simp); obtain ⟨u0, u1, u2, u3⟩ := own_rowM (p := Vb.heap.size) (r := (g0, g1, g2, g3)) J6.out (by simp); clear hb)
        | (go_at_call 26; refine (Q6.out _ _ J6.out).mono ?_; rintro e Vf ⟨rfl, rfl⟩)
        | (go_at_call 25; refine (Q7.out _ _ J6.out).mono ?_; rintro e Vg ⟨rfl, h7⟩; have J7 := Lib.hid h7; clear h7)
        | (go_at_call 22; refine (Q3.out _ _ J7.out).mono ?_; rintro e Vh ⟨rfl, hb⟩; have J8 := Lib.hid (J7.out.later hb); clear hb)
        | (go_at_call 12; refine (HA.out _).mono ?_; rintro e V9 ⟨rfl, hb⟩; have H9 := Lib.hid ((J8.out.low).trans (hb.mono (J8.out.low).size)); clear hb))
      go_ret
      exact ⟨rfl, HEnd.out _ H9.out⟩
end Bf
end Go.Proofs.YtecnijnmgdfdhaaGreat
