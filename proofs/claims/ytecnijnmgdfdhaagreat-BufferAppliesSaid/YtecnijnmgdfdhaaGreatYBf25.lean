/- Joined: Bf25. -/
import Derived.Test.YtecnijnmgdfdhaaGreatYBfG
/- Law08: BufferApplies. -/
namespace Go.Proofs.YtecnijnmgdfdhaaGreat
namespace Bf
open Go.RowKit Tr Tb
open Ky (less)
set_option maxHeartbeats 16000000 in
set_option maxRecDepth 100000 in
theorem bufferApplies_walk (m0 : Int) (a : Option Addr) (c : Nat) (l : List OpT) (q : Option Addr) (d : Nat) (m : List OpT) (w : World) (hl : GoodOps w a c l) (hm : GoodOps w q d m) :
    Calls Tryz.prog 8 #[.int .i64 m0, .agg #[.slice a l.length c, .slice q m.length d]] w (Yes w) := by
  have HA := Lib.hid (fun W => awakeB_any W)
  have hb0 := al1 w (.cells #[.slice a l.length c, .slice q m.length d] 24)
  obtain ⟨W, hW⟩ : ∃ W, w.alloc (.cells #[.slice a l.length c, .slice q m.length d] 24) = W := ⟨_, rfl⟩
  have x0 : W.cell? ⟨w.heap.size, 0, none⟩ = some (.slice a l.length c) := by rw [← hW]; simp
  have x1 : W.cell? ⟨w.heap.size, 1, none⟩ = some (.slice q m.length d) := by rw [← hW]; simp
  rw [hW] at hb0
  have HX : Hid (∀ V, Below W.heap.size W V → V.cell? ⟨w.heap.size, 0, none⟩ = some (.slice a l.length c) ∧ V.cell? ⟨w.heap.size, 1, none⟩ = some (.slice q m.length d)) := Lib.hid (fun V hb => ⟨old_cell x0 hb, old_cell x1 hb⟩)
  have HEnd : Hid (∀ V, Below W.heap.size W V → Below w.heap.size w V) := Lib.hid (fun V hb => hb0.trans (hb.mono hb0.size))
  have HL := Lib.hid (hl.later hb0)
  have HM := Lib.hid (hm.later hb0)
  have HF := Lib.hid (fun V (hb : Below W.heap.size W V) => few8_any a c l q d m V (HL.out.later hb) (HM.out.later hb))
  have HRt := Lib.hid (fun W => right_any m0 W)
  have hcap := HM.out.rd.cap
  have hle := HM.out.rd.le
  unfold maxLen at hcap
  clear hb0 hl hm
  by_cases hmo : okMost m0 = true
  case neg =>
    have hm2 : okMost m0 = false := by simpa using hmo
    rw [hm2] at HRt
    clear hmo hm2
    go_enter Tryz.func8, Tryz.ntmps8
    go_wp2_with (first | (go_at_call 10; refine (HRt.out _).mono ?_; rintro e V1 ⟨rfl, rfl⟩) | (go_at_call 12; refine (HA.out _).mono ?_; rintro e V9 ⟨rfl, hb⟩; have H9 := Lib.hid ((Below.refl W.heap.size W).trans (hb.mono (Below.refl W.heap.size W).size)); clear hb))
    go_ret
    exact ⟨rfl, HEnd.out _ H9.out⟩
  rw [hmo] at HRt
  have hm3 : 1 ≤ m0 ∧ m0 ≤ 1024 := by unfold okMost at hmo; simpa using hmo
  obtain ⟨most, rfl⟩ : ∃ n : Nat, m0 = n := ⟨m0.toNat, by omega⟩
  have hmm : 1 ≤ most ∧ most ≤ 1024 := by omega
  clear hmo hm3
  by_cases hf : fewT l ∧ fewT m
  case neg =>
    have hff : decide (fewT l ∧ fewT m) = false := by simpa using hf
    rw [hff] at HF
    clear hf hff hmm
    go_enter Tryz.func8, Tryz.ntmps8
    go_wp2_with (first | (go_at_call 10; refine (HRt.out _).mono ?_; rintro e V1 ⟨rfl, rfl⟩) | (go_at_call 11; refine (HF.out _ (Below.refl _ _)).mono ?_; rintro e V2 ⟨rfl, hb⟩; have H2 := Lib.hid hb; obtain ⟨x0, x1⟩ := HX.out _ hb; clear hb) | (go_at_call 12; refine (HA.out _).mono ?_; rintro e V9 ⟨rfl, hb⟩; have H9 := Lib.hid ((H2.out).trans (hb.mono (H2.out).size)); clear hb))
    go_ret
    exact ⟨rfl, HEnd.out _ H9.out⟩
  have hff : decide (fewT l ∧ fewT m) = true := by simpa using hf
  have hml : m.length ≤ 100 := hf.2.2
  rw [hff] at HF
  clear hf hff
  have HMd := Lib.hid (fun V (X : List Rs) (hb : Own W.heap.size W X V) => own_made most hmm a c l ((HL.out.later hb.low).rd) HL.out.ok hb)
  obtain ⟨L, hL⟩ : ∃ L, Tb.runT most l = L := ⟨_, rfl⟩
  rw [hL] at HMd
  have HNw := Lib.hid (fun tb X V (h : Own W.heap.size W X V) => own_bufMake tb h)
  have tok1 : True := trivial
  have H0 := Lib.hid (Own.nil W)
  clear hL hmm
  go_enter Tryz.func8, Tryz.ntmps8
  go_wp2_with (first
    | (go_at_call 10; refine (HRt.out _).mono ?_; rintro e V1 ⟨rfl, rfl⟩)
    | (go_at_call 11; refine (HF.out _ (Below.refl _ _)).mono ?_; rintro e V2 ⟨rfl, hb⟩; have H2 := Lib.hid hb; obtain ⟨x0, x1⟩ := HX.out _ hb; clear hb)
    | (go_at_call 13; have _t := tok1; refine (HMd.out _ _ (H0.out.later H2.out)).mono ?_; rintro e V3 ⟨tb, r, rfl, hb3, h3⟩; have H3 := Lib.hid h3; obtain ⟨x0, x1⟩ := HX.out _ h3.low; clear h3 hb3 tok1 _t)
    | (go_at_call 13; refine (HMd.out _ _ H3.out).mono ?_; rintro e V3a ⟨tu, r2, rfl, hb3, h3⟩; have H3a := Lib.hid h3.swap.drop; clear h3 hb3)
    | (go_at_call 14; refine (HNw.out _ _ _ H3a.out).mono ?_; rintro e V4 ⟨bb, rfl, h4⟩; have H4 := Lib.hid (h4.perm (List.Perm.cons _ (List.Perm.swap _ _ _))); clear h4))
  clear x0 x1
  go_loopw [11] (fun i wr => ∃ (j : Nat), j ≤ m.length ∧ i = .int .i64 j ∧ Hid (Own W.heap.size W [BufR bb tb (runB most L (m.take j)), TabR tb most 2 L, TabR tu most 2 (overT (runB most L (m.take j)) L), DocR r most L] wr)) (fun i _ => m.length - (intOf i).toNat)
  case atStart => exact ⟨0, by omega, rfl, H4⟩
  case round =>
    obtain ⟨j, hj, rfl, HJ⟩ := hrel
    have k0 : (0 : Int) ≤ (j : Int) := by omega
    obtain ⟨x0, x1⟩ := HX.out _ HJ.out.low
    by_cases hlt : j < m.length
    · obtain ⟨⟨ask, k, r0, r1, r2, r3⟩, hx⟩ : ∃ x, m[j]? = some x := ⟨_, List.getElem?_eq_getElem hlt⟩
      obtain ⟨lb, lo, rfl, z0, z1, z2, z3, z4, z5⟩ := op_at HM.out.rd hx
      have y0 := old_cell z0 HJ.out.low
      have y1 := old_cell z1 HJ.out.low
      have y2 := old_cell z2 HJ.out.low
      have y3 := old_cell z3 HJ.out.low
      have y4 := old_cell z4 HJ.out.low
      have y5 := old_cell z5 HJ.out.low
      have k1 : (j : Int) < (m.length : Int) := by omega
      have hwl : (runB most L (m.take j)).length ≤ 100000 := by
        have h1 := runB_len (most := most) (L := L) (m.take j)
        have h2 := List.length_take_le j m
        omega
      have HIn := Lib.hid (HM.out.ok _ (List.mem_of_getElem? hx)).2
      have HSt := Lib.hid (runB_succ (most := most) (L := L) hx)
      obtain ⟨Wj, hWj⟩ : ∃ Wj, runB most L (m.take j) = Wj := ⟨_, rfl⟩
      rw [hWj] at HJ HSt hwl
      have HSo : Hid (Sorted Wj ∧ Sorted L) := Lib.hid ⟨own_bufSorted HJ.out, own_tabSorted HJ.out.swap⟩
      obtain ⟨A, hAj⟩ : ∃ A, overT Wj L = A := ⟨_, rfl⟩
      rw [hAj] at HJ
      have HAj := Lib.hid hAj
      have hb := (own_cells HJ.out #[.int .i64 ask, .string ⟨k.toArray⟩, .int .i64 r0, .int .i64 r1, .int .i64 r2, .int .i64 r3] 43).perm (List.perm_middle (l₁ := [_, _, _, _])).symm
      obtain ⟨W3, hW3⟩ : ∃ W3, wr.alloc (.cells #[.int .i64 ask, .string ⟨k.toArray⟩, .int .i64 r0, .int .i64 r1, .int .i64 r2, .int .i64 r3] 43) = W3 := ⟨_, rfl⟩
      rw [hW3] at hb
      obtain ⟨P, hP⟩ : ∃ P, wr.heap.size = P := ⟨_, rfl⟩
      rw [hP] at hb
      have HB := Lib.hid hb
      have HC : Hid (∀ (Y : List Rs) V, Own W.heap.size W Y V → CellsR P [.int .i64 ask, .string ⟨k.toArray⟩, .int .i64 r0, .int .i64 r1, .int .i64 r2, .int .i64 r3] ∈ Y → V.cell? ⟨P, 0, none⟩ = some (.int .i64 ask) ∧ V.cell? ⟨P, 1, none⟩ = some (.string ⟨k.toArray⟩) ∧ V.cell? ⟨P, 2, none⟩ = some (.int .i64 r0) ∧ V.cell? ⟨P, 3, none⟩ = some (.int .i64 r1) ∧ V.cell? ⟨P, 4, none⟩ = some (.int .i64 r2) ∧ V.cell? ⟨P, 5, none⟩ = some (.int .i64 r3)) := Lib.hid (fun Y V h hm =>
        ⟨(own_cellM h hm (i := 0) rfl).1, (own_cellM h hm (i := 1) rfl).1, (own_cellM h hm (i := 2) rfl).1, (own_cellM h hm (i := 3) rfl).1, (own_cellM h hm (i := 4) rfl).1, (own_cellM h hm (i := 5) rfl).1⟩)
      obtain ⟨c0, c1, c2, c3, c4, c5⟩ := HC.out _ _ HB.out (by simp)
      obtain ⟨⟨g0, g1, g2, g3⟩, hgr⟩ : ∃ g, getR k A = g := ⟨_, rfl⟩
      have HWl := Lib.hid hwl
      clear hx z0 z1 z2 z3 z4 z5 hwl hb hWj hAj
      by_cases h0 : ask = 0
      · subst h0
        obtain ⟨pe, hpe⟩ : ∃ pe, putE k most A = pe := ⟨_, rfl⟩
        have kd : (pe != pe) = false := by simp
        have kd2 : decide (pe = pe) = true := by simp
        have HP := Lib.hid (own_bufPut k (r0, r1, r2, r3) HIn.out HWl.out HB.out)
        rw [HAj.out, hpe] at HP
        have HQ : Hid (∀ (X : List Rs) V, Own W.heap.size W (TabR tu most 2 A :: X) V → Calls Tryz.prog 42 #[ptrV tu, .string ⟨k.toArray⟩, .agg #[.int .i64 r0, .int .i64 r1, .int .i64 r2, .int .i64 r3]] V fun e V2 => e = .returned (.tuple #[.agg #[.int .i64 g0, .int .i64 g1, .int .i64 g2, .int .i64 g3], .bool (putB k A), .int .i64 pe]) ∧ Own W.heap.size W (TabR tu most 2 (putT k (r0, r1, r2, r3) most A) :: X) V2) := Lib.hid (fun X V h => by
          have := own_tabPut k (r0, r1, r2, r3) HIn.out h
          rw [hpe] at this
          rw [hgr] at this
          exact this)
        have HN : Hid (stepB most L (0, k, r0, r1, r2, r3) Wj = putW k (r0, r1, r2, r3) most Wj L) := Lib.hid (by unfold stepB; simp)
        have HO : Hid (overT (putW k (r0, r1, r2, r3) most Wj L) L = putT k (r0, r1, r2, r3) most A) := Lib.hid (by rw [← HAj.out]; exact over_put HSo.out.1 HSo.out.2 k (r0, r1, r2, r3))
        clear hpe hgr
        go_wp2_with (first
          | (go_at_call 23; refine HP.out.mono ?_; rintro e V5 ⟨rfl, h5⟩; obtain ⟨y0, y1, y2, y3, y4, y5⟩ := HC.out _ _ h5 (by simp); have H5 := Lib.hid h5; clear h5)
          | (go_at_call 42; refine (HQ.out _ _ H5.out.third).mono ?_; rintro e V6 ⟨rfl, h6⟩; have H6 := Lib.hid (h6.rot3.perm (List.perm_middle (l₁ := [_, _, _, _]))).drop; clear h6))
        go_roundw
        case rel => exact ⟨j + 1, by omega, by go_num, by rw [HSt.out, HN.out, HO.out]; exact H6⟩
        case measure => simp [intOf]; omega
      · have e0 : decide (ask = 0) = false := by simpa using h0
        by_cases h1 : ask = 1
        · subst h1
          obtain ⟨pe, hpe⟩ : ∃ pe, getE k A = pe := ⟨_, rfl⟩
          have kd : (pe != pe) = false := by simp
          have kd2 : decide (pe = pe) = true := by simp
          have HP := Lib.hid (own_bufDel k HWl.out HB.out)
          rw [HAj.out, hpe] at HP
          have HQ : Hid (∀ (X : List Rs) V, Own W.heap.size W (TabR tu most 2 A :: X) V → Calls Tryz.prog 43 #[ptrV tu, .string ⟨k.toArray⟩] V fun e V2 => e = .returned (.tuple #[.agg #[.int .i64 g0, .int .i64 g1, .int .i64 g2, .int .i64 g3], .int .i64 pe]) ∧ Own W.heap.size W (TabR tu most 2 (delT k A) :: X) V2) := Lib.hid (fun X V h => by
            have := own_tabDel k h
            rw [hpe] at this
            rw [hgr] at this
            exact this)
          have HN : Hid (stepB most L (1, k, r0, r1, r2, r3) Wj = delW k Wj L) := Lib.hid (by unfold stepB; simp)
          have HO : Hid (overT (delW k Wj L) L = delT k A) := Lib.hid (by rw [← HAj.out]; exact over_del HSo.out.1 HSo.out.2 k)
          clear hpe hgr
          go_wp2_with (first
            | (go_at_call 24; refine HP.out.mono ?_; rintro e V5 ⟨rfl, h5⟩; obtain ⟨y0, y1, y2, y3, y4, y5⟩ := HC.out _ _ h5 (by simp); have H5 := Lib.hid h5; clear h5)
            | (go_at_call 43; refine (HQ.out _ _ H5.out.third).mono ?_; rintro e V6 ⟨rfl, h6⟩; have H6 := Lib.hid (h6.rot3.perm (List.perm_middle (l₁ := [_, _, _, _]))).drop; clear h6))
          go_roundw
          case rel => exact ⟨j + 1, by omega, by go_num, by rw [HSt.out, HN.out, HO.out]; exact H6⟩
          case measure => simp [intOf]; omega
        · have e1 : decide (ask = 1) = false := by simpa using h1
          have HE : Hid (stepB most L (ask, k, r0, r1, r2, r3) Wj = Wj) := Lib.hid (by unfold stepB; rw [if_neg h0, if_neg h1])
          clear hgr
          go_wp2
          go_roundw
          case rel => exact ⟨j + 1, by omega, by go_num, by rw [HSt.out, HE.out, HAj.out]; exact Lib.hid (HB.out.perm (List.perm_middle (l₁ := [_, _, _, _]))).drop⟩
          case measure => simp [intOf]; omega
    · obtain rfl : j = m.length := by omega
      have k1 : ¬ (m.length : Int) < (m.length : Int) := by omega
      rw [List.take_length] at HJ
      have hWl : (runB most L m).length ≤ 100000 := by
        have h1 := runB_len (most := most) (L := L) m
        omega
      obtain ⟨M, hM⟩ : ∃ M, runB most L m = M := ⟨_, rfl⟩
      rw [hM] at HJ hWl
      obtain ⟨A, hA⟩ : ∃ A, overT M L = A := ⟨_, rfl⟩
      rw [hA] at HJ
      obtain ⟨n, hN⟩ : ∃ n, A.length = n := ⟨_, rfl⟩
      have kn : decide ((n : Int) = (n : Int)) = true := by simp
      have Q1 := Lib.hid (own_sameD (HJ.out.drop.perm (List.Perm.cons _ (List.Perm.swap _ _ _))))
      have Q2 : Hid (∀ V, Own W.heap.size W [BufR bb tb M, TabR tb most 2 L, TabR tu most 2 A, DocR r most L] V → Calls Tryz.prog 25 #[ptrV bb] V fun e V2 => e = .returned (.int .i64 0) ∧ Own W.heap.size W [BufR bb tb [], TabR tb most 2 A, TabR tu most 2 A, DocR r most L] V2) := Lib.hid (fun V h => by
        have ok := own_tabOk h.third
        have hn : ¬ most < (overT M L).length := by rw [hA]; have := ok.len; omega
        have := own_bufApply hWl h
        have e1 : apE most M L = 0 := by unfold apE; rw [if_neg hn]
        have e2 : apW most M L = [] := by unfold apW; rw [if_neg hn]
        have e3 : apL most M L = A := by unfold apL; rw [if_neg hn]; exact hA
        rw [e1, e2, e3] at this
        exact this)
      have Q3 : Hid (∀ V, Own W.heap.size W [BufR bb tb [], TabR tb most 2 A, TabR tu most 2 A, DocR r most L] V → Calls Tryz.prog 34 #[ptrV tb, ptrV tu] V fun e V2 => e = .returned (.bool true) ∧ Below V.heap.size V V2) := Lib.hid (fun V h => by
        have := own_tabSame h.drop
        simpa using this)
      have Q4 : Hid (∀ V, Own W.heap.size W [BufR bb tb [], TabR tb most 2 A, TabR tu most 2 A, DocR r most L] V → Calls Tryz.prog 30 #[ptrV tb] V fun e V2 => e = .returned (.bool true) ∧ Below V.heap.size V V2) := Lib.hid (fun V h => own_tabCheck h.drop)
      have Q5 : Hid (∀ V, Own W.heap.size W [BufR bb tb [], TabR tb most 2 A, TabR tu most 2 A, DocR r most L] V → Calls Tryz.prog 21 #[ptrV bb, .slice none 0 0] V fun e V2 => e = .returned (.bool true) ∧ Own W.heap.size W [BufR bb tb [], TabR tb most 2 A, TabR tu most 2 A, DocR r most L] V2) := Lib.hid (fun V h => own_written (la := none) (lk := 0) (by simp) h (fun U _ => Rd.nilSlice _ 6))
      have Q6 : Hid (∀ V, Own W.heap.size W [BufR bb tb [], TabR tb most 2 A, TabR tu most 2 A, DocR r most L] V → Calls Tryz.prog 17 #[ptrV bb] V fun e V2 => e = .returned (.int .i64 (n : Nat)) ∧ Below V.heap.size V V2) := Lib.hid (fun V h => by
        have := own_bufLen (by simp) h
        rw [show overT [] A = A from rfl, hN] at this
        exact this)
      have Q7 : Hid (∀ V, Own W.heap.size W [BufR bb tb [], TabR tb most 2 A, TabR tu most 2 A, DocR r most L] V → Calls Tryz.prog 26 #[ptrV tb] V fun e V2 => e = .returned (.int .i64 (n : Nat)) ∧ V = V2) := Lib.hid (fun V h => by
        have := own_tabLen h.swap
        rw [hN] at this
        exact this)
      clear hM hA hN hWl
      go_wp2_with (first
        | (go_at_call 22; refine Q1.out.mono ?_; rintro e Va ⟨rfl, hb⟩; have J1 := Lib.hid (HJ.out.later hb); clear hb)
        | (go_at_call 25; refine (Q2.out _ J1.out).mono ?_; rintro e Vb ⟨rfl, h7⟩; have J2 := Lib.hid h7; clear h7)
        | (go_at_call 34; refine (Q3.out _ J2.out).mono ?_; rintro e Vc ⟨rfl, hb⟩; have J3 := Lib.hid (J2.out.later hb); clear hb)
        | (go_at_call 30; refine (Q4.out _ J3.out).mono ?_; rintro e Vd ⟨rfl, hb⟩; have J4 := Lib.hid (J3.out.later hb); clear hb)
        | (go_at_call 21; refine (Q5.out _ J4.out).mono ?_; rintro e Ve ⟨rfl, h5⟩; have J5 := Lib.hid h5; clear h5)
        | (go_at_call 17; refine (Q6.out _ J5.out).mono ?_; rintro e Vf ⟨rfl, hb⟩; have J6 := Lib.hid (J5.out.later hb); clear hb)
        | (go_at_call 26; refine (Q7.out _ J6.out).mono ?_; rintro e Vg ⟨rfl, rfl⟩)
        | (go_at_call 12; refine (HA.out _).mono ?_; rintro e V9 ⟨rfl, hb⟩; have H9 := Lib.hid ((J6.out.low).trans (hb.mono (J6.out.low).size)); clear hb))
      go_ret
      exact ⟨rfl, HEnd.out _ H9.out⟩
end Bf
end Go.Proofs.YtecnijnmgdfdhaaGreat
