/- Joined: Bf28. -/
import Derived.Test.YtecnijnmgdfdhaaGreatYBfG
import Derived.Test.YtecnijnmgdfdhaaGreatYBfH
import Derived.Test.YtecnijnmgdfdhaaGreatYOpen2
namespace Go.Proofs.YtecnijnmgdfdhaaGreat
namespace Bf
open Go.RowKit Tr Tb
open Ky (less)
theorem fin_shows {B : Nat} {w0 w : World} {R1 R2 R3 R4 R5 : Rs} (h : Own B w0 [R1, R2, R3, R4, R5] w) : Own B w0 [R3, R2, R1, R4] w :=
 ((h.perm (List.perm_middle (l₁ := [R1, R2, R3, R4]))).drop.third).perm (List.Perm.cons _ (List.Perm.swap _ _ _))
theorem fin_shows7 {B : Nat} {w0 w : World} {R1 R2 R3 R4 R5 R6 : Rs} (h : Own B w0 [R1, R2, R3, R4, R5, R6] w) : Own B w0 [R4, R2, R5] w :=
 ((h.drop.perm (List.perm_middle (l₁ := [R2, R3, R4, R5]))).drop.swap.drop).swap
set_option maxHeartbeats 16000000 in
set_option maxRecDepth 100000 in
theorem bufferShows_walk (m0 : Int) (a : Option Addr) (c : Nat) (l : List OpT) (q : Option Addr) (d : Nat) (m : List OpT) (s : Option Addr) (t : Nat) (qa : List AskT) (w : World) (hl : GoodOps w a c l) (hm : GoodOps w q d m) (hs : Rd w 4 s qa.length t (asksV qa)) (has : ∀ x ∈ qa, OkAsk x) :
  Calls Tryz.prog 4 #[.int .i64 m0, .agg #[.slice a l.length c, .slice q m.length d], .slice s qa.length t] w (Yes w) := by
 have HA := Lib.hid (fun W => awakeB_any W)
 have hb0 := al1 w (.cells #[.slice a l.length c, .slice q m.length d] 24)
 obtain ⟨W, hW⟩ : ∃ W, w.alloc (.cells #[.slice a l.length c, .slice q m.length d] 24) = W := ⟨_, rfl⟩
 have x0 : W.cell? ⟨w.heap.size, 0, none⟩ = some (.slice a l.length c) := by rw [← hW]; simp
 have x1 : W.cell? ⟨w.heap.size, 1, none⟩ = some (.slice q m.length d) := by rw [← hW]; simp
 rw [hW] at hb0
 have HX : Hid (∀ V, Below W.heap.size W V → V.cell? ⟨w.heap.size, 0, none⟩ = some (.slice a l.length c) ∧ V.cell? ⟨w.heap.size, 1, none⟩ = some (.slice q m.length d)) := Lib.hid (fun V hb => ⟨old_cell x0 hb, old_cell x1 hb⟩)
 have HEnd : Hid (∀ V, Below W.heap.size W V → Below w.heap.size w V) := Lib.hid (fun V hb => hb0.trans (hb.mono hb0.size))
 have HL := Lib.hid (hl.later hb0)
 have HM := Lib.hid (hm.later hb0)
 have HF := Lib.hid (fun V (hb : Below W.heap.size W V) => few8_any a c l q d m V (HL.out.later hb) (HM.out.later hb))
 have HRt := Lib.hid (fun W => right_any m0 W)
 have hcap := HM.out.rd.cap
 have hle := HM.out.rd.le
 unfold maxLen at hcap
 have HAs := Lib.hid (And.intro (hs.later hb0) has)
 have hcap3 := hs.cap
 have hle3 := hs.le
 unfold maxLen at hcap3
 clear hb0 hl hm hs has
 by_cases hmo : okMost m0 = true
 case neg =>
  have hm2 : okMost m0 = false := by simpa using hmo
  rw [hm2] at HRt
  clear hmo hm2
  go_enter Tryz.func4, Tryz.ntmps4
  go_wp2_with (first | (go_at_call 10; refine (HRt.out _).mono ?_; rintro e V1 ⟨rfl, rfl⟩) | (go_at_call 12; refine (HA.out _).mono ?_; rintro e V9 ⟨rfl, hb⟩; have H9 := Lib.hid ((Below.refl W.heap.size W).trans (hb.mono (Below.refl W.heap.size W).size)); clear hb))
  go_ret
  exact ⟨rfl, HEnd.out _ H9.out⟩
 rw [hmo] at HRt
 have hm3 : 1 ≤ m0 ∧ m0 ≤ 1024 := by unfold okMost at hmo; simpa using hmo
 obtain ⟨most, rfl⟩ : ∃ n : Nat, m0 = n := ⟨m0.toNat, by omega⟩
 have hmm : 1 ≤ most ∧ most ≤ 1024 := by omega
 clear hmo hm3
 by_cases hf : fewT l ∧ fewT m
 case neg =>
  have hff : decide (fewT l ∧ fewT m) = false := by simpa using hf
  rw [hff] at HF
  clear hf hff hmm
  go_enter Tryz.func4, Tryz.ntmps4
  go_wp2_with (first | (go_at_call 10; refine (HRt.out _).mono ?_; rintro e V1 ⟨rfl, rfl⟩) | (go_at_call 11; refine (HF.out _ (Below.refl _ _)).mono ?_; rintro e V2 ⟨rfl, hb⟩; have H2 := Lib.hid hb; obtain ⟨x0, x1⟩ := HX.out _ hb; clear hb) | (go_at_call 12; refine (HA.out _).mono ?_; rintro e V9 ⟨rfl, hb⟩; have H9 := Lib.hid ((H2.out).trans (hb.mono (H2.out).size)); clear hb))
  go_ret
  exact ⟨rfl, HEnd.out _ H9.out⟩
 have hff : decide (fewT l ∧ fewT m) = true := by simpa using hf
 have hml : m.length ≤ 100 := hf.2.2
 rw [hff] at HF
 clear hf hff
 by_cases hk : qa.length ≤ 20
 case neg =>
  have hk2 : (20 : Int) < (qa.length : Int) := by omega
  clear hmm
  go_enter Tryz.func4, Tryz.ntmps4
  go_wp2_with (first | (go_at_call 10; refine (HRt.out _).mono ?_; rintro e V1 ⟨rfl, rfl⟩) | (go_at_call 11; refine (HF.out _ (Below.refl _ _)).mono ?_; rintro e V2 ⟨rfl, hb⟩; have H2 := Lib.hid hb; obtain ⟨x0, x1⟩ := HX.out _ hb; clear hb) | (go_at_call 12; refine (HA.out _).mono ?_; rintro e V9 ⟨rfl, hb⟩; have H9 := Lib.hid ((H2.out).trans (hb.mono (H2.out).size)); clear hb))
  go_ret
  exact ⟨rfl, HEnd.out _ H9.out⟩
 have hk2 : ¬ (20 : Int) < (qa.length : Int) := by omega
 have HMd := Lib.hid (fun V (hb : Below W.heap.size W V) => own_made most hmm a c l ((HL.out.later hb).rd) HL.out.ok ((Own.nil W).later hb))
 obtain ⟨L, hL⟩ : ∃ L, Tb.runT most l = L := ⟨_, rfl⟩
 rw [hL] at HMd
 have HNw := Lib.hid (fun tb X V (h : Own W.heap.size W X V) => own_bufMake tb h)
 have tok1 : True := trivial
 clear hL hmm
 go_enter Tryz.func4, Tryz.ntmps4
 go_wp2_with (first
  | (go_at_call 10; refine (HRt.out _).mono ?_; rintro e V1 ⟨rfl, rfl⟩)
  | (go_at_call 11; refine (HF.out _ (Below.refl _ _)).mono ?_; rintro e V2 ⟨rfl, hb⟩; have H2 := Lib.hid hb; obtain ⟨x0, x1⟩ := HX.out _ hb; clear hb)
  | (go_at_call 13; refine (HMd.out _ H2.out).mono ?_; rintro e V3 ⟨tb, r, rfl, hb3, h3⟩; have H3 := Lib.hid h3; clear h3 hb3)
  | (go_at_call 14; have _t := tok1; refine (HNw.out _ _ _ H3.out).mono ?_; rintro e V4 ⟨bb, rfl, h4⟩; have H4 := Lib.hid h4; clear h4 tok1 _t)
  | (go_at_call 14; refine (HNw.out _ _ _ H4.out).mono ?_; rintro e V4 ⟨bc, rfl, h4⟩; have H4b := Lib.hid (h4.swap.perm (List.Perm.cons _ (List.Perm.swap _ _ _))); clear h4))
 clear x0 x1
 go_loopw [13] (fun i wr => ∃ (j : Nat), j ≤ m.length ∧ i = .int .i64 j ∧ Hid (Own W.heap.size W [BufR bb tb (runB2 most L (m.take j)), TabR tb most 2 L, BufR bc tb (runB2 most L (m.take j)), DocR r most L] wr)) (fun i _ => m.length - (intOf i).toNat)
 case atStart => exact ⟨0, by omega, rfl, H4b⟩
 case round =>
  obtain ⟨j, hj, rfl, HJ⟩ := hrel
  have k0 : (0 : Int) ≤ (j : Int) := by omega
  obtain ⟨x0, x1⟩ := HX.out _ HJ.out.low
  by_cases hlt : j < m.length
  ·obtain ⟨⟨ask, k, r0, r1, r2, r3⟩, hx⟩ : ∃ x, m[j]? = some x := ⟨_, List.getElem?_eq_getElem hlt⟩
   obtain ⟨lb, lo, rfl, z0, z1, z2, z3, z4, z5⟩ := op_at HM.out.rd hx
   have y0 := old_cell z0 HJ.out.low
   have y1 := old_cell z1 HJ.out.low
   have y2 := old_cell z2 HJ.out.low
   have y3 := old_cell z3 HJ.out.low
   have y4 := old_cell z4 HJ.out.low
   have y5 := old_cell z5 HJ.out.low
   have k1 : (j : Int) < (m.length : Int) := by omega
   have hwl : (runB2 most L (m.take j)).length ≤ 100000 := by
    have h1 := runB2_len (most := most) (L := L) (m.take j)
    have h2 := List.length_take_le j m
    omega
   have HIn := Lib.hid (HM.out.ok _ (List.mem_of_getElem? hx)).2
   have HSt := Lib.hid (runB2_succ (most := most) (L := L) hx)
   obtain ⟨Wj, hWj⟩ : ∃ Wj, runB2 most L (m.take j) = Wj := ⟨_, rfl⟩
   rw [hWj] at HJ HSt hwl
   have hb := (own_cells HJ.out #[.int .i64 ask, .string ⟨k.toArray⟩, .int .i64 r0, .int .i64 r1, .int .i64 r2, .int .i64 r3] 43).perm (List.perm_middle (l₁ := [_, _, _, _])).symm
   obtain ⟨W3, hW3⟩ : ∃ W3, wr.alloc (.cells #[.int .i64 ask, .string ⟨k.toArray⟩, .int .i64 r0, .int .i64 r1, .int .i64 r2, .int .i64 r3] 43) = W3 := ⟨_, rfl⟩
   rw [hW3] at hb
   obtain ⟨P, hP⟩ : ∃ P, wr.heap.size = P := ⟨_, rfl⟩
   rw [hP] at hb
   have HB := Lib.hid hb
   have HC : Hid (∀ (Y : List Rs) V, Own W.heap.size W Y V → CellsR P [.int .i64 ask, .string ⟨k.toArray⟩, .int .i64 r0, .int .i64 r1, .int .i64 r2, .int .i64 r3] ∈ Y → V.cell? ⟨P, 0, none⟩ = some (.int .i64 ask) ∧ V.cell? ⟨P, 1, none⟩ = some (.string ⟨k.toArray⟩) ∧ V.cell? ⟨P, 2, none⟩ = some (.int .i64 r0) ∧ V.cell? ⟨P, 3, none⟩ = some (.int .i64 r1) ∧ V.cell? ⟨P, 4, none⟩ = some (.int .i64 r2) ∧ V.cell? ⟨P, 5, none⟩ = some (.int .i64 r3)) := Lib.hid (fun Y V h hm =>
    ⟨(own_cellM h hm (i := 0) rfl).1, (own_cellM h hm (i := 1) rfl).1, (own_cellM h hm (i := 2) rfl).1, (own_cellM h hm (i := 3) rfl).1, (own_cellM h hm (i := 4) rfl).1, (own_cellM h hm (i := 5) rfl).1⟩)
   obtain ⟨c0, c1, c2, c3, c4, c5⟩ := HC.out _ _ HB.out (by simp)
   have HWl := Lib.hid hwl
   clear hx z0 z1 z2 z3 z4 z5 hwl hb hWj
   by_cases h0 : ask = 0
   ·subst h0
    have HN : Hid (stepB2 most L (0, k, r0, r1, r2, r3) Wj = putW k (r0, r1, r2, r3) most Wj L) := Lib.hid (by unfold stepB2; simp)
    have tok2 : True := trivial
    have HP := Lib.hid (own_bufPut k (r0, r1, r2, r3) HIn.out HWl.out HB.out)
    have HP2 : Hid (∀ (X : List Rs) V, Own W.heap.size W (BufR bc tb Wj :: TabR tb most 2 L :: X) V → _) := Lib.hid (fun X V h => own_bufPut k (r0, r1, r2, r3) HIn.out HWl.out h)
    go_wp2_with (first
     | (go_at_call 23; have _t := tok2; refine HP.out.mono ?_; rintro e V5 ⟨rfl, h5⟩; obtain ⟨y0, y1, y2, y3, y4, y5⟩ := HC.out _ _ h5 (by simp); have H5 := Lib.hid h5; clear h5 tok2 _t)
     | (go_at_call 23; refine (HP2.out _ _ (H5.out.third.perm (List.Perm.cons _ (List.Perm.swap _ _ _)))).mono ?_; rintro e V6 ⟨rfl, h6⟩; have H6 := Lib.hid h6; clear h6))
    go_roundw
    case rel => exact ⟨j + 1, by omega, by go_num, by rw [HSt.out, HN.out]; exact Lib.hid (fin_shows H6.out)⟩
    case measure => simp [intOf]; omega
   ·have e0 : decide (ask = 0) = false := by simpa using h0
    have HN : Hid (stepB2 most L (ask, k, r0, r1, r2, r3) Wj = delW k Wj L) := Lib.hid (by unfold stepB2; rw [if_neg h0])
    have tok2 : True := trivial
    have HP := Lib.hid (own_bufDel k HWl.out HB.out)
    have HP2 : Hid (∀ (X : List Rs) V, Own W.heap.size W (BufR bc tb Wj :: TabR tb most 2 L :: X) V → _) := Lib.hid (fun X V h => own_bufDel k HWl.out h)
    go_wp2_with (first
     | (go_at_call 24; have _t := tok2; refine HP.out.mono ?_; rintro e V5 ⟨rfl, h5⟩; obtain ⟨y0, y1, y2, y3, y4, y5⟩ := HC.out _ _ h5 (by simp); have H5 := Lib.hid h5; clear h5 tok2 _t)
     | (go_at_call 24; refine (HP2.out _ _ (H5.out.third.perm (List.Perm.cons _ (List.Perm.swap _ _ _)))).mono ?_; rintro e V6 ⟨rfl, h6⟩; have H6 := Lib.hid h6; clear h6))
    go_roundw
    case rel => exact ⟨j + 1, by omega, by go_num, by rw [HSt.out, HN.out]; exact Lib.hid (fin_shows H6.out)⟩
    case measure => simp [intOf]; omega
  ·obtain rfl : j = m.length := by omega
   have k1 : ¬ (m.length : Int) < (m.length : Int) := by omega
   rw [List.take_length] at HJ
   have hWl : (runB2 most L m).length ≤ 100000 := by
    have h1 := runB2_len (most := most) (L := L) m
    omega
   have okL := own_tabOk HJ.out.swap
   have sL := own_tabSorted HJ.out.swap
   have hrun := runB2_ok (most := most) (L := L) sL okL.len m (W := []) List.Pairwise.nil okL.len
   obtain ⟨M, hM⟩ : ∃ M, runB2 most L m = M := ⟨_, rfl⟩
   have hrun2 : Sorted M ∧ (overT M L).length ≤ most := by rw [← hM]; exact hrun
   rw [hM] at HJ hWl
   obtain ⟨A, hA⟩ : ∃ A, overT M L = A := ⟨_, rfl⟩
   have hid := over_idem hrun2.1 sL
   rw [hA] at hid hrun2
   obtain ⟨n, hN⟩ : ∃ n, A.length = n := ⟨_, rfl⟩
   have kn : decide ((n : Int) = (n : Int)) = true := by simp
   have kn2 : ((n : Int) != (n : Int)) = false := by simp
   have hOkA : OkT A := by rw [← hA]; exact over_ok (own_bufOk HJ.out) okL.ok
   have Q1 : Hid (Calls Tryz.prog 17 #[ptrV bb] wr fun e V2 => e = .returned (.int .i64 (n : Nat)) ∧ Below wr.heap.size wr V2) := Lib.hid (by
    have := own_bufLen hWl HJ.out
    rw [hA, hN] at this
    exact this)
   have Q2 : Hid (∀ V, Own W.heap.size W [BufR bb tb M, TabR tb most 2 L, BufR bc tb M, DocR r most L] V → Calls Tryz.prog 25 #[ptrV bb] V fun e V2 => e = .returned (.int .i64 0) ∧ Own W.heap.size W [BufR bc tb M, TabR tb most 2 A, DocR r most L] V2) := Lib.hid (fun V h => by
    have hn : ¬ most < (overT M L).length := by rw [hA]; omega
    have := own_bufApply hWl h
    have e1 : apE most M L = 0 := by unfold apE; rw [if_neg hn]
    have e3 : apL most M L = A := by unfold apL; rw [if_neg hn]; exact hA
    rw [e1, e3] at this
    exact this.mono (fun e V2 ⟨k1, k2⟩ => ⟨k1, k2.drop.swap⟩))
   have Q3 : Hid (∀ (X : List Rs) V, Own W.heap.size W (BufR bc tb M :: TabR tb most 2 A :: X) V → Calls Tryz.prog 26 #[ptrV tb] V fun e V2 => e = .returned (.int .i64 (n : Nat)) ∧ V = V2) := Lib.hid (fun X V h => by
    have := own_tabLen h.swap
    rw [hN] at this
    exact this)
   have HRun := Lib.hid (And.intro hrun2.2 (And.intro hWl (And.intro hid (And.intro hA (And.intro hOkA (And.intro hN (by rw [← hA]; exact over_sorted M sL : Sorted A)))))))
   clear hM hA hN hWl okL sL hrun hrun2 hid hOkA
   go_wp2_with (first
    | (go_at_call 17; refine Q1.out.mono ?_; rintro e Va ⟨rfl, hb⟩; have J1 := Lib.hid (HJ.out.later hb); clear hb)
    | (go_at_call 25; refine (Q2.out _ J1.out).mono ?_; rintro e Vb ⟨rfl, h7⟩; have J2 := Lib.hid h7; clear h7)
    | (go_at_call 26; refine (Q3.out _ _ J2.out).mono ?_; rintro e Vg ⟨rfl, rfl⟩))
   clear x0 x1
   go_loopw [16] (fun i wr => ∃ (u : Nat), u ≤ qa.length ∧ i = .int .i64 u ∧ Hid (Own W.heap.size W [BufR bc tb M, TabR tb most 2 A, DocR r most L] wr)) (fun i _ => qa.length - (intOf i).toNat)
   case atStart => exact ⟨0, by omega, rfl, J2⟩
   case round =>
    obtain ⟨u, hu, rfl, HU⟩ := hrel
    have u0 : (0 : Int) ≤ (u : Int) := by omega
    by_cases hul : u < qa.length
    ·have u1 : (u : Int) < (qa.length : Int) := by omega
     obtain ⟨⟨fc, flo, fhi, fm⟩, hx⟩ : ∃ x, qa[u]? = some x := ⟨_, List.getElem?_eq_getElem hul⟩
     obtain ⟨sb, so, rfl, z0, z1, z2, z3⟩ := ask_at HAs.out.1 hx
     have y0 := old_cell z0 HU.out.low
     have y1 := old_cell z1 HU.out.low
     have y2 := old_cell z2 HU.out.low
     have y3 := old_cell z3 HU.out.low
     have hok := HAs.out.2 _ (List.mem_of_getElem? hx)
     have hb := (own_cells HU.out #[.int .i64 fc, .int .i64 flo, .int .i64 fhi, .int .i64 fm] 52).perm (List.perm_middle (l₁ := [_, _, _])).symm
     obtain ⟨W3, hW3⟩ : ∃ W3, wr.alloc (.cells #[.int .i64 fc, .int .i64 flo, .int .i64 fhi, .int .i64 fm] 52) = W3 := ⟨_, rfl⟩
     rw [hW3] at hb
     obtain ⟨P, hP⟩ : ∃ P, wr.heap.size = P := ⟨_, rfl⟩
     rw [hP] at hb
     have HB := Lib.hid hb
     have HC : Hid (∀ (Y : List Rs) V, Own W.heap.size W Y V → CellsR P [.int .i64 fc, .int .i64 flo, .int .i64 fhi, .int .i64 fm] ∈ Y → V.cell? ⟨P, 0, none⟩ = some (.int .i64 fc) ∧ V.cell? ⟨P, 1, none⟩ = some (.int .i64 flo) ∧ V.cell? ⟨P, 2, none⟩ = some (.int .i64 fhi) ∧ V.cell? ⟨P, 3, none⟩ = some (.int .i64 fm)) := Lib.hid (fun Y V h hm =>
      ⟨(own_cellM h hm (i := 0) rfl).1, (own_cellM h hm (i := 1) rfl).1, (own_cellM h hm (i := 2) rfl).1, (own_cellM h hm (i := 3) rfl).1⟩)
     obtain ⟨c0, c1, c2, c3⟩ := HC.out _ _ HB.out (by simp)
     obtain ⟨fe, hfe⟩ : ∃ fe, findE fc flo fhi fm = fe := ⟨_, rfl⟩
     obtain ⟨KF, hKF⟩ : ∃ KF, findK fc flo fhi fm A = KF := ⟨_, rfl⟩
     have hKl : KF.length ≤ 100000 := by
      rw [← hKF]
      refine findK_len HRun.out.2.2.2.2.1 hok.2.1 hok.2.2 HRun.out.2.2.2.2.2.2 ?_
      rw [HRun.out.2.2.2.2.2.1]
      have h1 := HRun.out.1
      have h2 := HRun.out.2.2.2.2.2.1
      have h3 := (own_tabOk HU.out.swap).hi
      omega
     have HF1 : Hid (Calls Tryz.prog 18 #[ptrV bc, .int .i64 fc, .int .i64 flo, .int .i64 fhi, .int .i64 fm] W3 fun e V2 => ∃ (a : Option Addr) (k : Nat), e = .returned (.tuple #[.slice a KF.length k, .int .i64 fe]) ∧ Own W.heap.size W (SlR 1 a KF.length k (textsV KF) :: BufR bc tb M :: TabR tb most 2 A :: DocR r most L :: [CellsR P [.int .i64 fc, .int .i64 flo, .int .i64 fhi, .int .i64 fm]]) V2) := Lib.hid (by
      have := own_bufFindAll fc flo fhi fm hok.2.1 hok.2.2 HRun.out.2.1 HB.out
      rw [HRun.out.2.2.1, hKF, hfe] at this
      exact this)
     have HF2 : Hid (∀ (X : List Rs) V, Own W.heap.size W (TabR tb most 2 A :: X) V → Calls Tryz.prog 27 #[ptrV tb, .int .i64 fc, .int .i64 flo, .int .i64 fhi, .int .i64 fm] V fun e V2 => ∃ (a : Option Addr) (k : Nat), e = .returned (.tuple #[.slice a KF.length k, .int .i64 fe]) ∧ Own W.heap.size W (SlR 1 a KF.length k (textsV KF) :: TabR tb most 2 A :: X) V2) := Lib.hid (fun X V h => by
      have := own_findAll fc flo fhi fm hok.2.1 hok.2.2 h
      rw [hKF, hfe] at this
      exact this)
     have HTx : Hid (∀ (a b : Option Addr) (k k2 : Nat) V, Rd V 1 a KF.length k (textsV KF) → Rd V 1 b KF.length k2 (textsV KF) → Calls Tryz.prog 19 #[.slice a KF.length k, .slice b KF.length k2] V fun e V2 => e = .returned (.bool true) ∧ Below V.heap.size V V2) := Lib.hid (fun a b k k2 V h1 h2 => by
      have := texts_any a k KF b k2 KF V (by omega) h1 h2
      simpa using this)
     have kf : (fe != fe) = false := by simp
     have kf2 : decide (fe = fe) = true := by simp
     clear hx z0 z1 z2 z3 hb hok hfe hKF hKl
     go_wp2_with (first
      | (go_at_call 18; refine HF1.out.mono ?_; rintro e V5 ⟨a5, k5, rfl, h5⟩; obtain ⟨v0, v1, v2, v3⟩ := HC.out _ _ h5 (by simp); have H5 := Lib.hid h5; clear h5)
      | (go_at_call 27; refine (HF2.out _ _ H5.out.third).mono ?_; rintro e V6 ⟨a6, k6, rfl, h6⟩; have H6 := Lib.hid h6; clear h6)
      | (go_at_call 19; refine (HTx.out _ _ _ _ _ (own_rdM H6.out (by simp)) (own_rd H6.out)).mono ?_; rintro e V7 ⟨rfl, hb⟩; have H7 := Lib.hid (H6.out.later hb); clear hb))
     go_roundw
     case rel => exact ⟨u + 1, by omega, by go_num, Lib.hid (fin_shows7 H7.out)⟩
     case measure => simp [intOf]; omega
    ·obtain rfl : u = qa.length := by omega
     have u1 : ¬ (qa.length : Int) < (qa.length : Int) := by omega
     go_wp2
     go_loopw [22] (fun i wr => ∃ (v : Nat), v ≤ m.length ∧ i = .int .i64 v ∧ Hid (Own W.heap.size W [BufR bc tb M, TabR tb most 2 A, DocR r most L] wr)) (fun i _ => m.length - (intOf i).toNat)
     case atStart => exact ⟨0, by omega, rfl, HU⟩
     case round =>
      obtain ⟨v, hv, rfl, HV⟩ := hrel
      have v0 : (0 : Int) ≤ (v : Int) := by omega
      obtain ⟨x0, x1⟩ := HX.out _ HV.out.low
      by_cases hvl : v < m.length
      ·have v1 : (v : Int) < (m.length : Int) := by omega
       obtain ⟨⟨ask, k, r0, r1, r2, r3⟩, hx⟩ : ∃ x, m[v]? = some x := ⟨_, List.getElem?_eq_getElem hvl⟩
       obtain ⟨lb, lo, rfl, z0, z1, z2, z3, z4, z5⟩ := op_at HM.out.rd hx
       have HY : Hid (∀ V, Below W.heap.size W V → V.cell? ⟨lb, lo + v * 6 + 1, none⟩ = some (.string ⟨k.toArray⟩)) := Lib.hid (fun V hb => old_cell z1 hb)
       have y1 := HY.out _ HV.out.low
       obtain ⟨⟨g0, g1, g2, g3⟩, hgr⟩ : ∃ g, getR k A = g := ⟨_, rfl⟩
       obtain ⟨pe, hpe⟩ : ∃ pe, getE k A = pe := ⟨_, rfl⟩
       have hq := Rw.neqRow g0 g1 g2 g3 g0 g1 g2 g3 true (by simp)
       have kd : (pe != pe) = false := by simp
       have kd2 : decide (pe = pe) = true := by simp
       have G1 : Hid (Calls Tryz.prog 28 #[ptrV bc, .string ⟨k.toArray⟩] wr fun e V2 => e = .returned (.tuple #[.agg #[.int .i64 g0, .int .i64 g1, .int .i64 g2, .int .i64 g3], .int .i64 pe]) ∧ Below wr.heap.size wr V2) := Lib.hid (by
        have := own_bufGet k HV.out
        rw [HRun.out.2.2.1, hgr, hpe] at this
        exact this)
       have G2 : Hid (∀ (X : List Rs) V, Own W.heap.size W (BufR bc tb M :: TabR tb most 2 A :: X) V → Calls Tryz.prog 29 #[ptrV tb, .string ⟨k.toArray⟩] V fun e V2 => e = .returned (.tuple #[.agg #[.int .i64 g0, .int .i64 g1, .int .i64 g2, .int .i64 g3], .int .i64 pe]) ∧ Below V.heap.size V V2) := Lib.hid (fun X V h => by
        have := own_tabGet k h.swap
        rw [hgr, hpe] at this
        exact this)
       clear hx z0 z1 z2 z3 z4 z5 hgr hpe
       go_wp2_with (first
        | (go_at_call 28; refine G1.out.mono ?_; rintro e Va ⟨rfl, hb⟩; have J3 := Lib.hid (((own_newRow (HV.out.later hb) (g0, g1, g2, g3) 41).perm (List.perm_middle (l₁ := [_, _, _])).symm)); obtain ⟨n0, n1⟩ := HX.out _ J3.out.low; have n2 := HY.out _ J3.out.low; clear hb)
        | (go_at_call 29; refine (G2.out _ _ J3.out).mono ?_; rintro e Vb ⟨rfl, hb⟩; have J4 := Lib.hid (((own_newRow (J3.out.later hb) (g0, g1, g2, g3) 41).perm (List.perm_middle (l₁ := [_, _, _, _])).symm)); obtain ⟨p0, p1, p2, p3⟩ := own_rowM (p := Va.heap.size) (r := (g0, g1, g2, g3)) J4.out (by simp); obtain ⟨q0, q1, q2, q3⟩ := own_rowM (p := Vb.heap.size) (r := (g0, g1, g2, g3)) J4.out (by simp); clear hb))
       go_roundw
       case rel => exact ⟨v + 1, by omega, by go_num, Lib.hid ((J4.out.perm (List.perm_middle (l₁ := [_, _, _]))).drop.perm (List.perm_middle (l₁ := [_, _, _]))).drop⟩
       case measure => simp [intOf]; omega
      ·obtain rfl : v = m.length := by omega
       have v1 : ¬ (m.length : Int) < (m.length : Int) := by omega
       have R1 : Hid (Calls Tryz.prog 17 #[ptrV bc] wr fun e V2 => e = .returned (.int .i64 (n : Nat)) ∧ Below wr.heap.size wr V2) := Lib.hid (by
        have := own_bufLen HRun.out.2.1 HV.out
        rw [HRun.out.2.2.1, HRun.out.2.2.2.2.2.1] at this
        exact this)
       have R2 : Hid (∀ V, Own W.heap.size W [BufR bc tb M, TabR tb most 2 A, DocR r most L] V → Calls Tryz.prog 25 #[ptrV bc] V fun e V2 => e = .returned (.int .i64 0) ∧ Own W.heap.size W [TabR tb most 2 A, DocR r most L] V2) := Lib.hid (fun V h => by
        have hn : ¬ most < (overT M A).length := by have := HRun.out.1; rw [HRun.out.2.2.1]; omega
        have := own_bufApply HRun.out.2.1 h
        have e1 : apE most M A = 0 := by unfold apE; rw [if_neg hn]
        have e3 : apL most M A = A := by unfold apL; rw [if_neg hn]; exact HRun.out.2.2.1
        rw [e1, e3] at this
        exact this.mono (fun e V2 ⟨k1, k2⟩ => ⟨k1, k2.drop⟩))
       have R3 : Hid (∀ (X : List Rs) V, Own W.heap.size W (TabR tb most 2 A :: X) V → Calls Tryz.prog 26 #[ptrV tb] V fun e V2 => e = .returned (.int .i64 (n : Nat)) ∧ V = V2) := Lib.hid (fun X V h => by
        have := own_tabLen h
        rw [HRun.out.2.2.2.2.2.1] at this
        exact this)
       have R4 : Hid (∀ (X : List Rs) V, Own W.heap.size W (TabR tb most 2 A :: X) V → Calls Tryz.prog 30 #[ptrV tb] V fun e V2 => e = .returned (.bool true) ∧ Below V.heap.size V V2) := Lib.hid (fun X V h => own_tabCheck h)
       go_wp2_with (first
        | (go_at_call 17; refine R1.out.mono ?_; rintro e Va ⟨rfl, hb⟩; have J5 := Lib.hid (HV.out.later hb); clear hb)
        | (go_at_call 25; refine (R2.out _ J5.out).mono ?_; rintro e Vb ⟨rfl, h7⟩; have J6 := Lib.hid h7; clear h7)
        | (go_at_call 26; refine (R3.out _ _ J6.out).mono ?_; rintro e Vg ⟨rfl, rfl⟩)
        | (go_at_call 30; refine (R4.out _ _ J6.out).mono ?_; rintro e Vd ⟨rfl, hb⟩; have J7 := Lib.hid (J6.out.later hb); clear hb)
        | (go_at_call 12; refine (HA.out _).mono ?_; rintro e V9 ⟨rfl, hb⟩; have H9 := Lib.hid ((J7.out.low).trans (hb.mono (J7.out.low).size)); clear hb))
       go_ret
       exact ⟨rfl, HEnd.out _ H9.out⟩
end Bf
end Go.Proofs.YtecnijnmgdfdhaaGreat
