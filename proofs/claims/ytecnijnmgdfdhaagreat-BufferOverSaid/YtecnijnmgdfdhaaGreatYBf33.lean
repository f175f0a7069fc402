/- Joined: Bf33. -/
import Derived.Test.YtecnijnmgdfdhaaGreatYBfI
import Derived.Test.YtecnijnmgdfdhaaGreatYLawC
namespace Go.Proofs.YtecnijnmgdfdhaaGreat
namespace Bf
open Go.RowKit Tr Tb
open Ky (less)
theorem over_start {B : Nat} {w0 w : World} {R1 R2 R3 R4 R5 : Rs} (h : Own B w0 [R1, R2, R3, R4, R5] w) : Own B w0 [R2, R5, R1, R3] w :=
 ((h.perm (List.perm_middle (l₁ := [R1, R2, R3]))).drop.swap).perm (List.Perm.cons _ (List.perm_middle (l₁ := [R1, R3])))
theorem over_six {B : Nat} {w0 w : World} {C S D E T F : Rs} (h : Own B w0 [C, S, D, E, T, F] w) : Own B w0 [D, C, S, F, T, E] w :=
 (h.perm (List.perm_middle (l₁ := [C, S]))).perm (List.Perm.cons _ (List.Perm.cons _ (List.Perm.cons _ (List.reverse_perm [E, T, F]).symm)))
theorem over_b4 {B : Nat} {w0 w : World} {C S D E T F : Rs} (h : Own B w0 [D, C, S, F, T, E] w) : Own B w0 [F, T, D, C, S, E] w :=
 (h.perm (List.perm_middle (l₁ := [D, C, S]))).perm (List.Perm.cons _ (List.perm_middle (l₁ := [D, C, S])))
theorem over_take {W L : List Pr} {j : Nat} {p : Pr} (h : W[j]? = some p) : overT (W.take (j + 1)) L = stepW (overT (W.take j) L) p := by
 unfold overT
 rw [List.take_add_one, h, List.foldl_append]
 rfl
theorem put_big {M : List Pr} {k s : Str} {q : R4} {big : Nat} (hk : Ks.okKey k = true) (hs : s = encT q) (hM : M.length < big) : putT k q big M = ins (k, s) M := by
 unfold putT
 rw [if_pos, hs]
 unfold putE
 rw [if_pos hk, decide_eq_false (by omega)]
 simp
theorem okW_row {W : List Pr} (hW : OkW W) {k : Str} {b : UInt8} {s : Str} (h : (k, b :: s) ∈ W) : ∃ q, In4 q ∧ s = encT q ∧ decT s = q := by
 obtain ⟨_, r, hr, e⟩ := hW _ h
 cases r with
 | none => cases e
 | some q =>
  have e2 : b :: s = 1 :: encT q := e
  cases e2
  exact ⟨q, hr q rfl, rfl, decT_encT (hr q rfl)⟩
def runG (most : Nat) (L : List Pr) (l : List OpT) : List Pr := l.foldl (fun L x => Tb.stepT most x L) L
theorem runG_succ {most : Nat} {L : List Pr} {l : List OpT} {j : Nat} {x : OpT} (h : l[j]? = some x) : runG most L (l.take (j + 1)) = Tb.stepT most x (runG most L (l.take j)) := by
 unfold runG
 rw [List.take_add_one, h, List.foldl_append]
 rfl
theorem own_docShare {B : Nat} {w0 w : World} {X : List Rs} {rc m1 c : Nat} {a : Option Addr} {L : List Pr} (h : Own B w0 (DocA rc m1 a c L :: X) w) (m2 : Nat) (t : TypeId) : Own B w0 (DocR w.heap.size m2 L :: X) (w.alloc (.cells #[.slice a L.length c, .int .i64 m2] t)) := by
 refine Own.turn (L := [DocA rc m1 a c L]) (L' := [DocR w.heap.size m2 L]) h (fun F hs => ?_)
 obtain ⟨F0, t0, rfl⟩ := SepF.get hs
 refine ⟨lstF w.heap.size F0, SepF.one (R := DocR w.heap.size m2 L) ⟨F0, a, c, ⟨by simp, by simp, by simp, t0.sl.laid _, fun x hx => Nat.lt_irrefl _ (t0.lf _ _ hx), t0.lf.laid _⟩, rfl⟩, Fr.ofBelow (al1 w _) _, fun b o hb => ?_⟩
 rcases hb with rfl | hb
 ·exact .inr (Nat.le_refl _)
 ·exact .inl (.inr hb)
theorem own_docAt {B : Nat} {w0 w : World} {Y : List Rs} {r most : Nat} {L : List Pr} (h : Own B w0 Y w) (hm : DocR r most L ∈ Y) : ∃ a c, w.cell? ⟨r, 0, none⟩ = some (.slice a L.length c) := by
 obtain ⟨_, _, F, hs, _⟩ := h
 obtain ⟨F1, F0, a, c, t, _⟩ := sepF_mem hs hm
 exact ⟨a, c, t.c0⟩
set_option maxHeartbeats 16000000 in
set_option maxRecDepth 100000 in
theorem bufferOver_walk (m0 : Int) (a : Option Addr) (c : Nat) (l : List OpT) (q : Option Addr) (d : Nat) (m : List OpT) (s : Option Addr) (t : Nat) (n3 : List OpT) (w : World) (hl : GoodOps w a c l) (hm : GoodOps w q d m) (hn3 : GoodOps w s t n3) :
  Calls Tryz.prog 7 #[.int .i64 m0, .agg #[.slice a l.length c, .slice q m.length d], .slice s n3.length t] w (Yes w) := by
 have HA := Lib.hid (fun W => awakeB_any W)
 have hb0 := al1 w (.cells #[.slice a l.length c, .slice q m.length d] 24)
 obtain ⟨W, hW⟩ : ∃ W, w.alloc (.cells #[.slice a l.length c, .slice q m.length d] 24) = W := ⟨_, rfl⟩
 have x0 : W.cell? ⟨w.heap.size, 0, none⟩ = some (.slice a l.length c) := by rw [← hW]; simp
 have x1 : W.cell? ⟨w.heap.size, 1, none⟩ = some (.slice q m.length d) := by rw [← hW]; simp
 rw [hW] at hb0
 have HX : Hid (∀ V, Below W.heap.size W V → V.cell? ⟨w.heap.size, 0, none⟩ = some (.slice a l.length c) ∧ V.cell? ⟨w.heap.size, 1, none⟩ = some (.slice q m.length d)) := Lib.hid (fun V hb => ⟨old_cell x0 hb, old_cell x1 hb⟩)
 have HEnd : Hid (∀ V, Below W.heap.size W V → Below w.heap.size w V) := Lib.hid (fun V hb => hb0.trans (hb.mono hb0.size))
 have HL := Lib.hid (hl.later hb0)
 have HM := Lib.hid (hm.later hb0)
 have HF := Lib.hid (fun V (hb : Below W.heap.size W V) => few8_any a c l q d m V (HL.out.later hb) (HM.out.later hb))
 have HRt := Lib.hid (fun W => right_any m0 W)
 have hcap := HM.out.rd.cap
 have hle := HM.out.rd.le
 unfold maxLen at hcap
 have HN3 := Lib.hid (hn3.later hb0)
 have HF3 := Lib.hid (fun V (hb : Below W.heap.size W V) => (HN3.out.later hb).few)
 have hcap3 := HN3.out.rd.cap
 have hle3 := HN3.out.rd.le
 unfold maxLen at hcap3
 clear hb0 hl hm hn3
 by_cases hmo : okMost m0 = true
 case neg =>
  have hm2 : okMost m0 = false := by simpa using hmo
  rw [hm2] at HRt
  clear hmo hm2
  go_enter Tryz.func7, Tryz.ntmps7
  go_wp2_with (first | (go_at_call 10; refine (HRt.out _).mono ?_; rintro e V1 ⟨rfl, rfl⟩) | (go_at_call 12; refine (HA.out _).mono ?_; rintro e V9 ⟨rfl, hb⟩; have H9 := Lib.hid ((Below.refl W.heap.size W).trans (hb.mono (Below.refl W.heap.size W).size)); clear hb))
  go_ret
  exact ⟨rfl, HEnd.out _ H9.out⟩
 rw [hmo] at HRt
 have hm3 : 1 ≤ m0 ∧ m0 ≤ 1024 := by unfold okMost at hmo; simpa using hmo
 obtain ⟨most, rfl⟩ : ∃ n : Nat, m0 = n := ⟨m0.toNat, by omega⟩
 have hmm : 1 ≤ most ∧ most ≤ 1024 := by omega
 clear hmo hm3
 by_cases hf : fewT l ∧ fewT m
 case neg =>
  have hff : decide (fewT l ∧ fewT m) = false := by simpa using hf
  rw [hff] at HF
  clear hf hff hmm
  go_enter Tryz.func7, Tryz.ntmps7
  go_wp2_with (first | (go_at_call 10; refine (HRt.out _).mono ?_; rintro e V1 ⟨rfl, rfl⟩) | (go_at_call 11; refine (HF.out _ (Below.refl _ _)).mono ?_; rintro e V2 ⟨rfl, hb⟩; have H2 := Lib.hid hb; obtain ⟨x0, x1⟩ := HX.out _ hb; clear hb) | (go_at_call 12; refine (HA.out _).mono ?_; rintro e V9 ⟨rfl, hb⟩; have H9 := Lib.hid ((H2.out).trans (hb.mono (H2.out).size)); clear hb))
  go_ret
  exact ⟨rfl, HEnd.out _ H9.out⟩
 have hff : decide (fewT l ∧ fewT m) = true := by simpa using hf
 have hml : m.length ≤ 100 := hf.2.2
 rw [hff] at HF
 clear hf hff
 by_cases hf3 : fewT n3
 case neg =>
  have hff : decide (fewT n3) = false := by simpa using hf3
  rw [hff] at HF3
  clear hf3 hff hmm
  go_enter Tryz.func7, Tryz.ntmps7
  go_wp2_with (first | (go_at_call 10; refine (HRt.out _).mono ?_; rintro e V1 ⟨rfl, rfl⟩) | (go_at_call 11; refine (HF.out _ (Below.refl _ _)).mono ?_; rintro e V2 ⟨rfl, hb⟩; have H2 := Lib.hid hb; obtain ⟨x0, x1⟩ := HX.out _ hb; clear hb) | (go_at_call 31; refine (HF3.out _ H2.out).mono ?_; rintro e V2b ⟨rfl, rfl⟩) | (go_at_call 12; refine (HA.out _).mono ?_; rintro e V9 ⟨rfl, hb⟩; have H9 := Lib.hid ((H2.out).trans (hb.mono (H2.out).size)); clear hb))
  go_ret
  exact ⟨rfl, HEnd.out _ H9.out⟩
 have hff : decide (fewT n3) = true := by simpa using hf3
 have hn3l : n3.length ≤ 100 := hf3.2
 rw [hff] at HF3
 clear hf3 hff
 have HMd := Lib.hid (fun V (hb : Below W.heap.size W V) => own_made most hmm a c l ((HL.out.later hb).rd) HL.out.ok ((Own.nil W).later hb))
 obtain ⟨L, hL⟩ : ∃ L, Tb.runT most l = L := ⟨_, rfl⟩
 rw [hL] at HMd
 have HNw := Lib.hid (fun tb X V (h : Own W.heap.size W X V) => own_bufMake tb h)
 have HRn : Hid (∀ bb tb r V, Own W.heap.size W [BufR bb tb [], TabR tb most 2 L, DocR r most L] V → Calls Tryz.prog 15 #[ptrV r] V fun e V2 => ∃ s rc, e = .returned (ptrV s) ∧ Own W.heap.size W [BufR bb tb [], TabR tb most 2 L, NoteR s rc [], DocR rc most L, DocR r most L] V2) := Lib.hid (fun bb tb r V h => by
  have okL := own_tabOk h.swap
  refine (own_refNew (by have := okL.len; have := okL.hi; omega) h.third).mono ?_
  rintro e V2 ⟨s, rc, e1, h2⟩
  refine ⟨s, rc, e1, h2.perm ?_⟩
  refine (List.perm_middle (l₁ := [NoteR s rc [], DocR rc most L, DocR r most L])).trans (List.Perm.cons _ ?_)
  exact (List.perm_middle (l₁ := [NoteR s rc [], DocR rc most L, DocR r most L])))
 clear hL hmm
 go_enter Tryz.func7, Tryz.ntmps7
 go_wp2_with (first
  | (go_at_call 10; refine (HRt.out _).mono ?_; rintro e V1 ⟨rfl, rfl⟩)
  | (go_at_call 11; refine (HF.out _ (Below.refl _ _)).mono ?_; rintro e V2 ⟨rfl, hb⟩; have H2 := Lib.hid hb; obtain ⟨x0, x1⟩ := HX.out _ hb; clear hb)
  | (go_at_call 31; refine (HF3.out _ H2.out).mono ?_; rintro e V2b ⟨rfl, rfl⟩)
  | (go_at_call 13; refine (HMd.out _ H2.out).mono ?_; rintro e V3 ⟨tb, r, rfl, hb3, h3⟩; have H3 := Lib.hid h3; clear h3 hb3)
  | (go_at_call 14; refine (HNw.out _ _ _ H3.out).mono ?_; rintro e V4 ⟨bb, rfl, h4⟩; have H4 := Lib.hid h4; clear h4)
  | (go_at_call 15; refine (HRn.out _ _ _ _ H4.out).mono ?_; rintro e V4 ⟨sb, rc, rfl, h4⟩; have H4b := Lib.hid h4; clear h4))
 clear x0 x1
 go_loopw [12] (fun i wr => ∃ (j : Nat), j ≤ m.length ∧ i = .int .i64 j ∧ Hid (Own W.heap.size W [BufR bb tb (runB most L (m.take j)), TabR tb most 2 L, NoteR sb rc (runB most L (m.take j)), DocR rc most (overT (runB most L (m.take j)) L), DocR r most L] wr)) (fun i _ => m.length - (intOf i).toNat)
 case atStart => exact ⟨0, by omega, rfl, H4b⟩
 case round =>
  obtain ⟨j, hj, rfl, HJ⟩ := hrel
  have k0 : (0 : Int) ≤ (j : Int) := by omega
  obtain ⟨x0, x1⟩ := HX.out _ HJ.out.low
  by_cases hlt : j < m.length
  ·obtain ⟨⟨ask, k, r0, r1, r2, r3⟩, hx⟩ : ∃ x, m[j]? = some x := ⟨_, List.getElem?_eq_getElem hlt⟩
   obtain ⟨lb, lo, rfl, z0, z1, z2, z3, z4, z5⟩ := op_at HM.out.rd hx
   have y0 := old_cell z0 HJ.out.low
   have y1 := old_cell z1 HJ.out.low
   have y2 := old_cell z2 HJ.out.low
   have y3 := old_cell z3 HJ.out.low
   have y4 := old_cell z4 HJ.out.low
   have y5 := old_cell z5 HJ.out.low
   have k1 : (j : Int) < (m.length : Int) := by omega
   have hwl : (runB most L (m.take j)).length ≤ 90000 := by
    have h1 := runB_len (most := most) (L := L) (m.take j)
    have h2 := List.length_take_le j m
    omega
   have HD := Lib.hid (own_does8 (ask, k, r0, r1, r2, r3) (HM.out.ok _ (List.mem_of_getElem? hx)) hwl HJ.out)
   rw [← runB_succ hx] at HD
   clear hx z0 z1 z2 z3 z4 z5 hwl
   go_wp2_with (go_at_call 16; refine HD.out.mono ?_; rintro e V5 ⟨rfl, h5⟩; have H5 := Lib.hid h5; clear h5)
   go_roundw
   case rel => exact ⟨j + 1, by omega, by go_num, H5⟩
   case measure => simp [intOf]; omega
  ·obtain rfl : j = m.length := by omega
   have k1 : ¬ (m.length : Int) < (m.length : Int) := by omega
   rw [List.take_length] at HJ
   have hWl : (runB most L m).length ≤ 100 := by
    have h1 := runB_len (most := most) (L := L) m
    omega
   obtain ⟨Wb, hWb⟩ : ∃ Wb, runB most L m = Wb := ⟨_, rfl⟩
   rw [hWb] at HJ hWl
   have HK := Lib.hid (over_start HJ.out)
   clear hWb k1 k0
   go_wp2
   clear x0 x1
   go_loopw [13] (fun i wr => ∃ (j : Nat), j ≤ n3.length ∧ i = .int .i64 j ∧ Hid (Own W.heap.size W [TabR tb most 2 (runG most L (n3.take j)), DocR r most (runG most L (n3.take j)), BufR bb tb Wb, NoteR sb rc Wb] wr)) (fun i _ => n3.length - (intOf i).toNat)
   case atStart => exact ⟨0, by omega, rfl, HK⟩
   clear HJ HK
   case round =>
    obtain ⟨j, hj, rfl, HJ⟩ := hrel
    have k0 : (0 : Int) ≤ (j : Int) := by omega
    by_cases hlt : j < n3.length
    ·obtain ⟨⟨ask, k, r0, r1, r2, r3⟩, hx⟩ : ∃ x, n3[j]? = some x := ⟨_, List.getElem?_eq_getElem hlt⟩
     obtain ⟨lb, lo, rfl, z0, z1, z2, z3, z4, z5⟩ := op_at HN3.out.rd hx
     have y0 := old_cell z0 HJ.out.low
     have y1 := old_cell z1 HJ.out.low
     have y2 := old_cell z2 HJ.out.low
     have y3 := old_cell z3 HJ.out.low
     have y4 := old_cell z4 HJ.out.low
     have y5 := old_cell z5 HJ.out.low
     have k1 : (j : Int) < (n3.length : Int) := by omega
     have HD := Lib.hid (own_does (ask, k, r0, r1, r2, r3) (HN3.out.ok _ (List.mem_of_getElem? hx)) HJ.out)
     rw [← runG_succ hx] at HD
     clear hx z0 z1 z2 z3 z4 z5
     go_wp2_with (go_at_call 37; refine HD.out.mono ?_; rintro e V5 ⟨rfl, h5⟩; have H5 := Lib.hid h5; clear h5)
     go_roundw
     case rel => exact ⟨j + 1, by omega, by go_num, H5⟩
     case measure => simp [intOf]; omega
    ·obtain rfl : j = n3.length := by omega
     have k1 : ¬ (n3.length : Int) < (n3.length : Int) := by omega
     rw [List.take_length] at HJ
     obtain ⟨L2, hL2⟩ : ∃ L2, runG most L n3 = L2 := ⟨_, rfl⟩
     rw [hL2] at HJ
     clear hL2
     have HCp := Lib.hid (own_docCopy (by have okL := own_tabOk HJ.out; have := okL.len; have := okL.hi; omega) HJ.out.swap)
     clear k1 k0
     go_wp2_with (go_at_call 36; refine HCp.out.mono ?_; rintro e V5 ⟨rc2, rfl, h5⟩; obtain ⟨za, zc, hA⟩ := own_docOpen h5; have z0 := (own_docM hA (r := rc2) (most := most) (a := za) (c := zc) (L := L2) (by simp)).choose_spec.c0; have H5 := Lib.hid (own_docShare hA 100000 47); clear h5 hA)
     obtain ⟨V6, hV6⟩ : ∃ V6, V5.alloc (.cells #[.slice za L2.length zc, .int .i64 100000] 47) = V6 := ⟨_, rfl⟩
     obtain ⟨sh, hsh⟩ : ∃ sh, V5.heap.size = sh := ⟨_, rfl⟩
     have h6 := H5.out
     rw [show (V5.alloc (.cells #[.slice za L2.length zc, .int .i64 (100000 : Nat)] 47)) = V6 from hV6, hsh] at h6
     try simp only [hV6, hsh]
     obtain ⟨wa, wc, h7⟩ := own_noteOpen (h6.perm (List.perm_middle (l₁ := [_, _, _, _])))
     have h8 := over_six h7
     obtain ⟨Wn, hWn⟩ : ∃ Wn, Wb.length = Wn := ⟨_, rfl⟩
     rw [hWn] at h8
     have HWn := Lib.hid hWn
     have H8 : Hid (Own W.heap.size W [DocR sh 100000 (overT (Wb.take 0) L2), CellsR sb [ptrV rc, .slice wa Wn wc], SlR 6 wa Wn wc (wrsV Wb), BufR bb tb Wb, TabR tb most 2 L2, DocR r most L2] V6) := Lib.hid h8
     have hWnl : Wn ≤ 100 := by omega
     clear h6 h7 h8 hWn hV6 hsh z0 H5
     go_loopw [15] (fun i wr => ∃ (j : Nat), j ≤ Wn ∧ i = .int .i64 j ∧ Hid (Own W.heap.size W [DocR sh 100000 (overT (Wb.take j) L2), CellsR sb [ptrV rc, .slice wa Wn wc], SlR 6 wa Wn wc (wrsV Wb), BufR bb tb Wb, TabR tb most 2 L2, DocR r most L2] wr)) (fun i _ => Wn - (intOf i).toNat)
     case atStart => exact ⟨0, by omega, rfl, H8⟩
     clear HJ H8
     case round =>
      obtain ⟨j, hj, rfl, HJ⟩ := hrel
      have k0 : (0 : Int) ≤ (j : Int) := by omega
      have okW := own_bufOk (HJ.out.perm (List.perm_middle (l₁ := [_, _, _])))
      have sW := own_bufSorted (HJ.out.perm (List.perm_middle (l₁ := [_, _, _])))
      have okT2 := own_tabOk (HJ.out.perm (List.perm_middle (l₁ := [_, _, _, _])))
      have sL := own_tabSorted (HJ.out.perm (List.perm_middle (l₁ := [_, _, _, _])))
      have hrd := own_rdM HJ.out (size := 6) (a := wa) (n := Wn) (c := wc) (xs := wrsV Wb) (by simp)
      have hrl := hrd.le
      have hrc := hrd.cap
      have yS := (own_cellM HJ.out (P := sb) (vs := [ptrV rc, .slice wa Wn wc]) (i := 1) (by simp) rfl).1
      by_cases hlt : j < Wn
      ·have k1 : (j : Int) < (Wn : Int) := by omega
       obtain ⟨⟨k, v⟩, hx⟩ : ∃ x, Wb[j]? = some x := ⟨_, List.getElem?_eq_getElem (by rw [HWn.out]; exact hlt)⟩
       have hmem := List.mem_of_getElem? hx
       have hkey := (okW _ hmem).1
       have hlen : (overT (Wb.take j) L2).length ≤ 2000 := by
        have h1 := over_bound (W := Wb.take j) (L := L2) (sW.sublist (List.take_sublist j Wb)) sL
        have h2 := List.length_take_le j Wb
        have := okT2.len
        have := okT2.hi
        omega
       obtain ⟨wb, wo, rfl, hz⟩ := wr_at hrd hx
       have HOv := Lib.hid (over_take (L := L2) hx)
       obtain ⟨A, hA⟩ : ∃ A, overT (Wb.take j) L2 = A := ⟨_, rfl⟩
       rw [hA] at HJ HOv hlen
       have y0 := hz 0 (.string ⟨k.toArray⟩) (by omega) (by cases v <;> rfl)
       rw [Nat.add_zero] at y0
       cases v with
       | nil =>
        have y5 := hz 5 (.bool false) (by omega) rfl
        have HP : Hid (Calls Tryz.prog 40 #[ptrV sh, .string ⟨k.toArray⟩] wr fun e V2 => e = .returned (.tuple #[rowW (getR k A), .int .i64 (getE k A)]) ∧ Own W.heap.size W [DocR sh 100000 (stepW A (k, [])), CellsR sb [ptrV rc, .slice (some ⟨wb, wo, none⟩) Wn wc], SlR 6 (some ⟨wb, wo, none⟩) Wn wc (wrsV Wb), BufR bb tb Wb, TabR tb most 2 L2, DocR r most L2] V2) := Lib.hid (by
         have := own_docDel k (by omega) HJ.out
         rwa [show delT k A = stepW A (k, []) by unfold delT; rw [if_pos hkey]; rfl] at this)
        clear okW sW okT2 sL hrd hx hmem hkey hlen hz hA
        go_wp2_with (go_at_call 40; refine HP.out.mono ?_; rintro e V5 ⟨rfl, h5⟩; have H5 := Lib.hid h5; clear h5)
        go_roundw
        case rel => exact ⟨j + 1, by omega, by go_num, by rw [HOv.out]; exact H5⟩
        case measure => simp [intOf]; omega
       | cons b s =>
        obtain ⟨⟨r0, r1, r2, r3⟩, hIn, hs, hd⟩ := okW_row okW hmem
        have HC6 : Hid (∀ i u, i < 6 → (wrV (k, b :: s))[i]? = some u → ∀ (Y : List Rs) V, Own W.heap.size W Y V → SlR 6 (some ⟨wb, wo, none⟩) Wn wc (wrsV Wb) ∈ Y → V.cell? ⟨wb, wo + j * 6 + i, none⟩ = some u) := Lib.hid (fun i u hi hu Y V h hm => by
         obtain ⟨b', o', e', hz'⟩ := wr_at (own_rdM h hm) hx
         cases e'
         exact hz' i u hi hu)
        have HS : Hid (∀ (Y : List Rs) V, Own W.heap.size W Y V → CellsR sb [ptrV rc, .slice (some ⟨wb, wo, none⟩) Wn wc] ∈ Y → SlR 6 (some ⟨wb, wo, none⟩) Wn wc (wrsV Wb) ∈ Y → V.cell? ⟨sb, 1, none⟩ = some (.slice (some ⟨wb, wo, none⟩) Wn wc) ∧ V.cell? ⟨wb, wo + j * 6, none⟩ = some (.string ⟨k.toArray⟩) ∧ V.cell? ⟨wb, wo + j * 6 + 1, none⟩ = some (.int .i64 r0) ∧ V.cell? ⟨wb, wo + j * 6 + 2, none⟩ = some (.int .i64 r1) ∧ V.cell? ⟨wb, wo + j * 6 + 3, none⟩ = some (.int .i64 r2) ∧ V.cell? ⟨wb, wo + j * 6 + 4, none⟩ = some (.int .i64 r3)) := Lib.hid (fun Y V h h1 h2 =>
         ⟨(own_cellM h h1 (i := 1) rfl).1, HC6.out 0 _ (by omega) rfl Y V h h2, HC6.out 1 (.int .i64 r0) (by omega) (by show some (Value.int .i64 (decT s).1) = _; rw [hd]) Y V h h2, HC6.out 2 (.int .i64 r1) (by omega) (by show some (Value.int .i64 (decT s).2.1) = _; rw [hd]) Y V h h2,
          HC6.out 3 (.int .i64 r2) (by omega) (by show some (Value.int .i64 (decT s).2.2.1) = _; rw [hd]) Y V h h2, HC6.out 4 (.int .i64 r3) (by omega) (by show some (Value.int .i64 (decT s).2.2.2) = _; rw [hd]) Y V h h2⟩)
        have y5 := hz 5 (.bool true) (by omega) rfl
        have HP : Hid (∀ V, Own W.heap.size W [DocR sh 100000 A, CellsR sb [ptrV rc, .slice (some ⟨wb, wo, none⟩) Wn wc], SlR 6 (some ⟨wb, wo, none⟩) Wn wc (wrsV Wb), BufR bb tb Wb, TabR tb most 2 L2, DocR r most L2] V → Calls Tryz.prog 39 #[ptrV sh, .string ⟨k.toArray⟩, .agg #[.int .i64 r0, .int .i64 r1, .int .i64 r2, .int .i64 r3]] V fun e V2 => e = .returned (.tuple #[rowW (getR k A), .bool (putB k A), .int .i64 (putE k 100000 A)]) ∧ Own W.heap.size W [DocR sh 100000 (stepW A (k, b :: s)), CellsR sb [ptrV rc, .slice (some ⟨wb, wo, none⟩) Wn wc], SlR 6 (some ⟨wb, wo, none⟩) Wn wc (wrsV Wb), BufR bb tb Wb, TabR tb most 2 L2, DocR r most L2] V2) := Lib.hid (fun V h => by
         have := own_docPut k (r0, r1, r2, r3) hIn (by omega) h
         rwa [show putT k (r0, r1, r2, r3) 100000 A = stepW A (k, b :: s) by rw [put_big hkey hs (by omega)]; rfl] at this)
        clear okW sW okT2 sL hrd hmem hkey hlen hz hA hIn hs hd
        go_wp2
        refine wp_region_held_drew (S := (fun V => V.cell? ⟨sb, 1, none⟩ = some (.slice (some ⟨wb, wo, none⟩) Wn wc) ∧ V.cell? ⟨wb, wo + j * 6, none⟩ = some (.string ⟨k.toArray⟩) ∧ V.cell? ⟨wb, wo + j * 6 + 1, none⟩ = some (.int .i64 r0) ∧ V.cell? ⟨wb, wo + j * 6 + 2, none⟩ = some (.int .i64 r1) ∧ V.cell? ⟨wb, wo + j * 6 + 3, none⟩ = some (.int .i64 r2) ∧ V.cell? ⟨wb, wo + j * 6 + 4, none⟩ = some (.int .i64 r3))) (by kernel_rfl) (HS.out _ _ (HJ.out.later (below_drewN wr 1)) (by simp) (by simp)) (fun hH0r => ?_)
        refine zzT (i := 0) (v := ?vr0) rfl (by kernel_rfl) (fun _ _ _ h => h) ?hr0 hH0r ?rr0
        case hr0 => (intro W h; (try dsimp only at h); go_simp; all_goals (with_reducible rfl))
        try simp only [zzA, zzB, zzC, Act.put, zzD, zzE, zzF]
        refine zzT (i := 1) (v := ?vr1) rfl (by kernel_rfl) (fun _ _ _ h => h) ?hr1 hH0r ?rr1
        case hr1 => (intro W h; (try dsimp only at h); go_simp; all_goals (with_reducible rfl))
        try simp only [zzA, zzB, zzC, Act.put, zzD, zzE, zzF]
        refine zzT (i := 2) (v := ?vr2) rfl (by kernel_rfl) (fun _ _ _ h => h) ?hr2 hH0r ?rr2
        case hr2 => (intro W h; (try dsimp only at h); go_simp; all_goals (with_reducible rfl))
        try simp only [zzA, zzB, zzC, Act.put, zzD, zzE, zzF]
        refine zzT (i := 3) (v := ?vr3) rfl (by kernel_rfl) (fun _ _ _ h => h) ?hr3 hH0r ?rr3
        case hr3 => (intro W h; (try dsimp only at h); go_simp; all_goals (with_reducible rfl))
        try simp only [zzA, zzB, zzC, Act.put, zzD, zzE, zzF]
        refine zzT (i := 4) (v := ?vr4) rfl (by kernel_rfl) (fun _ _ _ h => h) ?hr4 hH0r ?rr4
        case hr4 => (intro W h; (try dsimp only at h); go_simp; all_goals (with_reducible rfl))
        try simp only [zzA, zzB, zzC, Act.put, zzD, zzE, zzF]
        refine zzT (i := 5) (v := ?vr5) rfl (by kernel_rfl) (fun _ _ _ h => h) ?hr5 hH0r ?rr5
        case hr5 => (intro W h; (try dsimp only at h); go_simp; all_goals (with_reducible rfl))
        try simp only [zzA, zzB, zzC, Act.put, zzD, zzE, zzF]
        refine zzT (i := 6) (v := ?vr6) rfl (by kernel_rfl) (fun _ _ _ h => h) ?hr6 hH0r ?rr6
        case hr6 => (intro W h; (try dsimp only at h); go_simp; all_goals (with_reducible rfl))
        try simp only [zzA, zzB, zzC, Act.put, zzD, zzE, zzF]
        refine zzT (i := 7) (v := ?vr7) rfl (by kernel_rfl) (fun _ _ _ h => h) ?hr7 hH0r ?rr7
        case hr7 => (intro W h; (try dsimp only at h); go_simp; all_goals (with_reducible rfl))
        try simp only [zzA, zzB, zzC, Act.put, zzD, zzE, zzF]
        refine zzT (i := 8) (v := ?vr8) rfl (by kernel_rfl) (fun _ _ _ h => h) ?hr8 hH0r ?rr8
        case hr8 => (intro W h; (try dsimp only at h); go_simp; all_goals (with_reducible rfl))
        try simp only [zzA, zzB, zzC, Act.put, zzD, zzE, zzF]
        refine zzT (i := 9) (v := ?vr9) rfl (by kernel_rfl) (fun _ _ _ h => h) ?hr9 hH0r ?rr9
        case hr9 => (intro W h; (try dsimp only at h); go_simp; all_goals (with_reducible rfl))
        try simp only [zzA, zzB, zzC, Act.put, zzD, zzE, zzF]
        refine zzT (i := 10) (v := ?vr10) rfl (by kernel_rfl) (fun _ _ _ h => h) ?hr10 hH0r ?rr10
        case hr10 => (intro W h; (try dsimp only at h); go_simp; all_goals (with_reducible rfl))
        try simp only [zzA, zzB, zzC, Act.put, zzD, zzE, zzF]
        refine zzT (i := 11) (v := ?vr11) rfl (by kernel_rfl) (fun _ _ _ h => h) ?hr11 hH0r ?rr11
        case hr11 => (intro W h; (try dsimp only at h); go_simp; all_goals (with_reducible rfl))
        try simp only [zzA, zzB, zzC, Act.put, zzD, zzE, zzF]
        refine zzT (i := 12) (v := ?vr12) rfl (by kernel_rfl) (fun _ _ _ h => h) ?hr12 hH0r ?rr12
        case hr12 => (intro W h; (try dsimp only at h); go_simp; all_goals (with_reducible rfl))
        try simp only [zzA, zzB, zzC, Act.put, zzD, zzE, zzF]
        refine zzT (i := 13) (v := ?vr13) rfl (by kernel_rfl) (fun _ _ _ h => h) ?hr13 hH0r ?rr13
        case hr13 => (intro W h; (try dsimp only at h); go_simp; all_goals (with_reducible rfl))
        try simp only [zzA, zzB, zzC, Act.put, zzD, zzE, zzF]
        refine zzT (i := 14) (v := ?vr14) rfl (by kernel_rfl) (fun _ _ _ h => h) ?hr14 hH0r ?rr14
        case hr14 => (intro W h; (try dsimp only at h); go_simp; all_goals (with_reducible rfl))
        try simp only [zzA, zzB, zzC, Act.put, zzD, zzE, zzF]
        refine zzT (i := 15) (v := ?vr15) rfl (by kernel_rfl) (fun _ _ _ h => h) ?hr15 hH0r ?rr15
        case hr15 => (intro W h; (try dsimp only at h); go_simp; all_goals (with_reducible rfl))
        try simp only [zzA, zzB, zzC, Act.put, zzD, zzE, zzF]
        refine zzT (i := 16) (v := ?vr16) rfl (by kernel_rfl) (fun _ _ _ h => h) ?hr16 hH0r ?rr16
        case hr16 => (intro W h; (try dsimp only at h); go_simp; all_goals (with_reducible rfl))
        try simp only [zzA, zzB, zzC, Act.put, zzD, zzE, zzF]
        refine wpAnyH_ready (rs := [17]) (by kernel_rfl) (by simp) ?_
        refine AllReadyH.cons rfl (fun K hK => ?_) AllReadyH.nil
        simp only [zzA, zzB, zzC]
        go_simp
        (go_at_call 39; refine (HP.out _ (HJ.out.later (below_drewN wr 1))).mono ?_; rintro e V5 ⟨rfl, h5⟩; have H5 := Lib.hid h5; clear h5)
        refine hK.out _ _ (HS.out _ _ H5.out (by simp) (by simp)) (fun hH1r => ?_)
        clear hK K hH0r
        try simp only [zzA, zzB, zzC, Act.put, zzD, zzE, zzF]
        refine wpAnyH_done (by kernel_rfl) ?_ _
        go_wp2
        go_roundw
        case rel => exact ⟨j + 1, by omega, by go_num, by rw [HOv.out]; exact H5⟩
        case measure => simp [intOf]; omega
      ·obtain rfl : Wn = j := by omega
       have k1 : ¬ (Wn : Int) < (Wn : Int) := by omega
       rw [List.take_of_length_le (by rw [HWn.out]; exact Nat.le_refl _)] at HJ
       obtain ⟨A, hA⟩ : ∃ A, overT Wb L2 = A := ⟨_, rfl⟩
       rw [hA] at HJ
       have okA : OkT A := by rw [← hA]; exact over_ok okW okT2.ok
       obtain ⟨An, hAn⟩ : ∃ An, A.length = An := ⟨_, rfl⟩
       have hAl : A.length ≤ 2000 := by
        have h1 := over_bound (W := Wb) (L := L2) sW sL
        rw [hA] at h1
        have := okT2.len
        have := okT2.hi
        omega
       obtain ⟨za, zc, hz⟩ := own_docAt HJ.out (r := sh) (most := 100000) (L := A) (by simp)
       rw [hAn] at hz
       have HAw := Lib.hid (And.intro hA (And.intro hAn (And.intro okA hAl)))
       have HJ4 := Lib.hid (over_b4 HJ.out)
       have HLn : Hid (∀ V, Own W.heap.size W [BufR bb tb Wb, TabR tb most 2 L2, DocR sh 100000 A, CellsR sb [ptrV rc, .slice wa Wn wc], SlR 6 wa Wn wc (wrsV Wb), DocR r most L2] V → Calls Tryz.prog 17 #[ptrV bb] V fun e V2 => e = .returned (.int .i64 (An : Nat)) ∧ Below V.heap.size V V2) := Lib.hid (fun V h => by
        have := own_bufLen (by omega) h
        rw [hA, hAn] at this
        exact this)
       have kn : ((An : Int) != (An : Int)) = false := by simp
       have kn2 : decide ((An : Int) = (An : Int)) = true := by simp
       clear okW sW okT2 sL hrd hA okA hAn hAl HJ
       have HJ := HJ4
       clear HJ4
       go_wp2
       refine wp_region_held_drew (S := (fun V => V.cell? ⟨sh, 0, none⟩ = some (.slice za An zc))) (by kernel_rfl) (old_cell hz (below_drewN wr 1)) (fun hH0l => ?_)
       refine zzT (i := 0) (v := ?vl0) rfl (by kernel_rfl) (fun _ _ _ h => h) ?hl0 hH0l ?rl0
       case hl0 => (intro W h; (try dsimp only at h); go_simp; all_goals (with_reducible rfl))
       try simp only [zzA, zzB, zzC, Act.put, zzD, zzE, zzF]
       refine zzT (i := 2) (v := ?vl2) rfl (by kernel_rfl) (fun _ _ _ h => h) ?hl2 hH0l ?rl2
       case hl2 => (intro W h; (try dsimp only at h); go_simp; all_goals (with_reducible rfl))
       try simp only [zzA, zzB, zzC, Act.put, zzD, zzE, zzF]
       refine zzT (i := 3) (v := ?vl3) rfl (by kernel_rfl) (fun _ _ _ h => h) ?hl3 hH0l ?rl3
       case hl3 => (intro W h; (try dsimp only at h); go_simp; all_goals (with_reducible rfl))
       try simp only [zzA, zzB, zzC, Act.put, zzD, zzE, zzF]
       refine zzT (i := 4) (v := ?vl4) rfl (by kernel_rfl) (fun _ _ _ h => h) ?hl4 hH0l ?rl4
       case hl4 => (intro W h; (try dsimp only at h); go_simp; all_goals (with_reducible rfl))
       try simp only [zzA, zzB, zzC, Act.put, zzD, zzE, zzF]
       refine zzT (i := 5) (v := ?vl5) rfl (by kernel_rfl) (fun _ _ _ h => h) ?hl5 hH0l ?rl5
       case hl5 => (intro W h; (try dsimp only at h); go_simp; all_goals (with_reducible rfl))
       try simp only [zzA, zzB, zzC, Act.put, zzD, zzE, zzF]
       refine zzT (i := 6) (v := ?vl6) rfl (by kernel_rfl) (fun _ _ _ h => h) ?hl6 hH0l ?rl6
       case hl6 => (intro W h; (try dsimp only at h); go_simp; all_goals (with_reducible rfl))
       try simp only [zzA, zzB, zzC, Act.put, zzD, zzE, zzF]
       refine wpAnyH_ready (rs := [1]) (by kernel_rfl) (by simp) ?_
       refine AllReadyH.cons rfl (fun K hK => ?_) AllReadyH.nil
       simp only [zzA, zzB, zzC]
       go_simp
       (go_at_call 17; refine (HLn.out _ (HJ.out.later (below_drewN wr 1))).mono ?_; rintro e V5 ⟨rfl, hb⟩; have H5 := Lib.hid ((HJ.out.later (below_drewN wr 1)).later hb))
       refine hK.out _ _ (old_cell hH0l hb) (fun hH1l => ?_)
       clear hK K hH0l
       try simp only [zzA, zzB, zzC, Act.put, zzD, zzE, zzF]
       refine zzT (i := 7) (v := ?vl7) rfl (by kernel_rfl) (fun _ _ _ h => h) ?hl7 hH1l ?rl7
       case hl7 => (intro W h; (try dsimp only at h); go_simp; all_goals (with_reducible rfl))
       try simp only [zzA, zzB, zzC, Act.put, zzD, zzE, zzF]
       refine wpAnyH_done (by kernel_rfl) ?_ _
       go_wp2
       go_loopw [16] (fun i wr => ∃ (v : Nat), v ≤ m.length ∧ i = .int .i64 v ∧ Hid (Own W.heap.size W [BufR bb tb Wb, TabR tb most 2 L2, DocR sh 100000 A, CellsR sb [ptrV rc, .slice wa Wn wc], SlR 6 wa Wn wc (wrsV Wb), DocR r most L2] wr)) (fun i _ => m.length - (intOf i).toNat)
       case atStart => exact ⟨0, by omega, rfl, H5⟩
       clear H5 HJ
       case round =>
        obtain ⟨v, hv, rfl, HV⟩ := hrel
        have v0 : (0 : Int) ≤ (v : Int) := by omega
        obtain ⟨x0, x1⟩ := HX.out _ HV.out.low
        by_cases hvl : v < m.length
        ·have v1 : (v : Int) < (m.length : Int) := by omega
         obtain ⟨⟨ask, k, r0, r1, r2, r3⟩, hx⟩ : ∃ x, m[v]? = some x := ⟨_, List.getElem?_eq_getElem hvl⟩
         obtain ⟨lb, lo, rfl, z0, z1, z2, z3, z4, z5⟩ := op_at HM.out.rd hx
         have HY : Hid (∀ V, Below W.heap.size W V → V.cell? ⟨lb, lo + v * 6 + 1, none⟩ = some (.string ⟨k.toArray⟩)) := Lib.hid (fun V hb => old_cell z1 hb)
         have y1 := HY.out _ HV.out.low
         obtain ⟨⟨g0, g1, g2, g3⟩, hgr⟩ : ∃ g, getR k A = g := ⟨_, rfl⟩
         obtain ⟨pe, hpe⟩ : ∃ pe, getE k A = pe := ⟨_, rfl⟩
         have hq := Rw.neqRow g0 g1 g2 g3 g0 g1 g2 g3 true (by simp)
         have kd : (pe != pe) = false := by simp
         have kd2 : decide (pe = pe) = true := by simp
         have G1 : Hid (Calls Tryz.prog 28 #[ptrV bb, .string ⟨k.toArray⟩] wr fun e V2 => e = .returned (.tuple #[.agg #[.int .i64 g0, .int .i64 g1, .int .i64 g2, .int .i64 g3], .int .i64 pe]) ∧ Below wr.heap.size wr V2) := Lib.hid (by
          have := own_bufGet k HV.out
          rw [HAw.out.1, hgr, hpe] at this
          exact this)
         have G2 : Hid (∀ (Y : List Rs) V, Own W.heap.size W Y V → DocR sh 100000 A ∈ Y → Calls Tryz.prog 41 #[ptrV sh, .string ⟨k.toArray⟩] V fun e V2 => e = .returned (.tuple #[.agg #[.int .i64 g0, .int .i64 g1, .int .i64 g2, .int .i64 g3], .int .i64 pe]) ∧ Below V.heap.size V V2) := Lib.hid (fun Y V h hm => by
          have := own_docGet k (by have := HAw.out.2.2.2; omega) h hm
          rw [hgr, hpe] at this
          exact this)
         clear hx z0 z1 z2 z3 z4 z5 hgr hpe
         go_wp2_with (first
          | (go_at_call 28; refine G1.out.mono ?_; rintro e Va ⟨rfl, hb⟩; have J3 := Lib.hid (((own_newRow (HV.out.later hb) (g0, g1, g2, g3) 41).perm (List.perm_middle (l₁ := [_, _, _, _, _, _])).symm)); obtain ⟨n0, n1⟩ := HX.out _ J3.out.low; have n2 := HY.out _ J3.out.low; clear hb)
          | (go_at_call 41; refine (G2.out _ _ J3.out (by simp)).mono ?_; rintro e Vb ⟨rfl, hb⟩; have J4 := Lib.hid (((own_newRow (J3.out.later hb) (g0, g1, g2, g3) 41).perm (List.perm_middle (l₁ := [_, _, _, _, _, _, _])).symm)); obtain ⟨p0, p1, p2, p3⟩ := own_rowM (p := Va.heap.size) (r := (g0, g1, g2, g3)) J4.out (by simp); obtain ⟨q0, q1, q2, q3⟩ := own_rowM (p := Vb.heap.size) (r := (g0, g1, g2, g3)) J4.out (by simp); clear hb))
         go_roundw
         case rel => exact ⟨v + 1, by omega, by go_num, Lib.hid ((J4.out.perm (List.perm_middle (l₁ := [_, _, _, _, _, _]))).drop.perm (List.perm_middle (l₁ := [_, _, _, _, _, _]))).drop⟩
         case measure => simp [intOf]; omega
        ·obtain rfl : v = m.length := by omega
         have v1 : ¬ (m.length : Int) < (m.length : Int) := by omega
         by_cases hfull : most < An
         ·have kf : (most : Int) < (An : Int) := by omega
          have R1 : Hid (Calls Tryz.prog 25 #[ptrV bb] wr fun e V2 => e = .returned (.int .i64 16) ∧ Own W.heap.size W [BufR bb tb Wb, TabR tb most 2 L2, DocR sh 100000 A, CellsR sb [ptrV rc, .slice wa Wn wc], SlR 6 wa Wn wc (wrsV Wb), DocR r most L2] V2) := Lib.hid (by
           have hn : most < (overT Wb L2).length := by rw [HAw.out.1, HAw.out.2.1]; exact hfull
           have := own_bufApply (by omega) HV.out
           have e1 : apE most Wb L2 = 16 := by unfold apE; rw [if_pos hn]
           have e2 : apW most Wb L2 = Wb := by unfold apW; rw [if_pos hn]
           have e3 : apL most Wb L2 = L2 := by unfold apL; rw [if_pos hn]
           rw [e1, e2, e3] at this
           exact this)
          have R2 : Hid (∀ V, Own W.heap.size W [BufR bb tb Wb, TabR tb most 2 L2, DocR sh 100000 A, CellsR sb [ptrV rc, .slice wa Wn wc], SlR 6 wa Wn wc (wrsV Wb), DocR r most L2] V → Calls Tryz.prog 22 #[ptrV tb, ptrV r] V fun e V2 => e = .returned (.bool true) ∧ Below V.heap.size V V2) := Lib.hid (fun V h => own_sameD (h.drop.perm (List.Perm.cons _ (List.perm_middle (l₁ := [_, _, _])))))
          have R3 : Hid (∀ V, Own W.heap.size W [BufR bb tb Wb, TabR tb most 2 L2, DocR sh 100000 A, CellsR sb [ptrV rc, .slice wa Wn wc], SlR 6 wa Wn wc (wrsV Wb), DocR r most L2] V → Calls Tryz.prog 21 #[ptrV bb, .slice wa Wn wc] V fun e V2 => e = .returned (.bool true) ∧ Own W.heap.size W [BufR bb tb Wb, TabR tb most 2 L2, DocR sh 100000 A, CellsR sb [ptrV rc, .slice wa Wn wc], SlR 6 wa Wn wc (wrsV Wb), DocR r most L2] V2) := Lib.hid (fun V h => by
           have := own_written (la := wa) (lk := wc) (W := Wb) (by omega) h (fun U hU => by rw [HWn.out]; exact own_rdM hU (by simp))
           rwa [HWn.out] at this)
          go_wp2_with (first
           | (go_at_call 25; refine R1.out.mono ?_; rintro e Va ⟨rfl, h7⟩; obtain ⟨za5, zc5, hz5⟩ := own_docAt h7 (r := sh) (most := 100000) (L := A) (by simp); rw [HAw.out.2.1] at hz5; have J1 := Lib.hid h7; clear h7)
           | (go_at_call 22; refine (R2.out _ J1.out).mono ?_; rintro e Vb ⟨rfl, hb⟩; have J2 := Lib.hid (J1.out.later hb); have yS := (own_cellM J2.out (P := sb) (vs := [ptrV rc, .slice wa Wn wc]) (i := 1) (by simp) rfl).1; clear hb)
           | (go_at_call 21; refine (R3.out _ J2.out).mono ?_; rintro e Vc ⟨rfl, h7⟩; have J3 := Lib.hid h7; clear h7)
           | (go_at_call 12; refine (HA.out _).mono ?_; rintro e V9 ⟨rfl, hb⟩; have H9 := Lib.hid ((J3.out.low).trans (hb.mono (J3.out.low).size)); clear hb))
          go_ret
          exact ⟨rfl, HEnd.out _ H9.out⟩
         ·have kf : ¬ (most : Int) < (An : Int) := by omega
          have R1 : Hid (Calls Tryz.prog 25 #[ptrV bb] wr fun e V2 => e = .returned (.int .i64 0) ∧ Own W.heap.size W [BufR bb tb [], TabR tb most 2 A, DocR sh 100000 A, CellsR sb [ptrV rc, .slice wa Wn wc], SlR 6 wa Wn wc (wrsV Wb), DocR r most L2] V2) := Lib.hid (by
           have hn : ¬ most < (overT Wb L2).length := by rw [HAw.out.1, HAw.out.2.1]; exact hfull
           have := own_bufApply (by omega) HV.out
           have e1 : apE most Wb L2 = 0 := by unfold apE; rw [if_neg hn]
           have e2 : apW most Wb L2 = [] := by unfold apW; rw [if_neg hn]
           have e3 : apL most Wb L2 = A := by unfold apL; rw [if_neg hn]; exact HAw.out.1
           rw [e1, e2, e3] at this
           exact this)
          have R2 : Hid (∀ V, Own W.heap.size W [BufR bb tb [], TabR tb most 2 A, DocR sh 100000 A, CellsR sb [ptrV rc, .slice wa Wn wc], SlR 6 wa Wn wc (wrsV Wb), DocR r most L2] V → Calls Tryz.prog 22 #[ptrV tb, ptrV sh] V fun e V2 => e = .returned (.bool true) ∧ Below V.heap.size V V2) := Lib.hid (fun V h => by
           have := own_sameG h.drop HAw.out.2.2.1 (by have := HAw.out.2.2.2; omega)
           simpa using this)
          have R3 : Hid (∀ V, Own W.heap.size W [BufR bb tb [], TabR tb most 2 A, DocR sh 100000 A, CellsR sb [ptrV rc, .slice wa Wn wc], SlR 6 wa Wn wc (wrsV Wb), DocR r most L2] V → Calls Tryz.prog 30 #[ptrV tb] V fun e V2 => e = .returned (.bool true) ∧ Below V.heap.size V V2) := Lib.hid (fun V h => own_tabCheck h.drop)
          have R4 : Hid (∀ V, Own W.heap.size W [BufR bb tb [], TabR tb most 2 A, DocR sh 100000 A, CellsR sb [ptrV rc, .slice wa Wn wc], SlR 6 wa Wn wc (wrsV Wb), DocR r most L2] V → Calls Tryz.prog 21 #[ptrV bb, .slice none 0 0] V fun e V2 => e = .returned (.bool true) ∧ Own W.heap.size W [BufR bb tb [], TabR tb most 2 A, DocR sh 100000 A, CellsR sb [ptrV rc, .slice wa Wn wc], SlR 6 wa Wn wc (wrsV Wb), DocR r most L2] V2) := Lib.hid (fun V h => own_written (la := none) (lk := 0) (by simp) h (fun U _ => Rd.nilSlice _ 6))
          go_wp2_with (first
           | (go_at_call 25; refine R1.out.mono ?_; rintro e Va ⟨rfl, h7⟩; obtain ⟨za5, zc5, hz5⟩ := own_docAt h7 (r := sh) (most := 100000) (L := A) (by simp); rw [HAw.out.2.1] at hz5; have J1 := Lib.hid h7; clear h7)
           | (go_at_call 22; refine (R2.out _ J1.out).mono ?_; rintro e Vb ⟨rfl, hb⟩; have J2 := Lib.hid (J1.out.later hb); clear hb)
           | (go_at_call 30; refine (R3.out _ J2.out).mono ?_; rintro e Vb2 ⟨rfl, hb⟩; have J2b := Lib.hid (J2.out.later hb); clear hb)
           | (go_at_call 21; refine (R4.out _ J2b.out).mono ?_; rintro e Vc ⟨rfl, h7⟩; have J3 := Lib.hid h7; clear h7)
           | (go_at_call 12; refine (HA.out _).mono ?_; rintro e V9 ⟨rfl, hb⟩; have H9 := Lib.hid ((J3.out.low).trans (hb.mono (J3.out.low).size)); clear hb))
          go_ret
          exact ⟨rfl, HEnd.out _ H9.out⟩
end Bf
end Go.Proofs.YtecnijnmgdfdhaaGreat
