/- Joined: Bf34. -/
import Derived.Test.YtecnijnmgdfdhaaGreatYBfI
import Derived.Test.YtecnijnmgdfdhaaGreatYBfH
import Derived.Test.YtecnijnmgdfdhaaGreatYOpen2
import Derived.Test.YtecnijnmgdfdhaaGreatYTbfn2
namespace Go.Proofs.YtecnijnmgdfdhaaGreat
namespace Bf
open Go.RowKit Tr Tb
open Ky (less)
theorem own_docAtP {B : Nat} {w0 w : World} {Y : List Rs} {r most : Nat} {L : List Pr} (h : Own B w0 Y w) (hm : DocR r most L ∈ Y) : ∃ a c, w.cell? ⟨r, 0, none⟩ = some (.slice a L.length c) := by
 obtain ⟨_, _, F, hs, _⟩ := h
 obtain ⟨F1, F0, a, c, t, _⟩ := sepF_mem hs hm
 exact ⟨a, c, t.c0⟩
theorem own_docFindP {B : Nat} {w0 w : World} {Y : List Rs} {r most : Nat} {L : List Pr} (c : Nat) (hc : c < 4) (lo hi : Int) (h1 : Ky.In lo) (h2 : Ky.In hi) (m : Nat) (hn : L.length ≤ 100000) (ok : OkT L) (hs : Sorted L) (h : Own B w0 Y w) (hm : DocR r most L ∈ Y) :
  Calls Tryz.prog 20 #[ptrV r, .int .i64 c, .agg #[.int .i64 lo, .int .i64 hi], .int .i64 m] w fun e V => ∃ (b : Option Addr) (k : Nat), e = .returned (.slice b ((keysOf (hits c lo hi L)).take m).length k) ∧
   Own B w0 (SlR 1 b ((keysOf (hits c lo hi L)).take m).length k (textsV ((keysOf (hits c lo hi L)).take m)) :: Y) V := by
 have h' := h
 obtain ⟨_, _, F, hs', _⟩ := h
 obtain ⟨F1, F0, a, cc, t, _⟩ := sepF_mem hs' hm
 have := docFind_any c hc lo hi m hn ok hs w t
 rw [findF_keys ok hs h1 h2] at this
 refine this.mono ?_
 rintro e V ⟨b, k, e1, h3⟩
 exact ⟨b, k, e1, h'.beside h3⟩
theorem plays_open {B : Nat} {w0 w : World} {C S R1 R2 R4 R5 : Rs} (h : Own B w0 [C, S, R1, R2, R4, R5] w) : Own B w0 [R1, R2, R5, C, S, R4] w :=
 h.perm ((List.perm_middle (l₁ := [C, S])).trans (List.Perm.cons _ ((List.perm_middle (l₁ := [C, S])).trans (List.Perm.cons _ (List.perm_middle (l₁ := [C, S, R4]))))))
theorem plays_start {B : Nat} {w0 w : World} {R1 R2 R3 R4 R5 : Rs} (h : Own B w0 [R3, R4, R5, R1, R2] w) : Own B w0 [R1, R2, R3, R4, R5] w :=
 h.perm ((List.perm_middle (l₁ := [R3, R4, R5])).trans (List.Perm.cons _ (List.perm_middle (l₁ := [R3, R4, R5]))))
theorem plays_fin6 {B : Nat} {w0 w : World} {R0 R1 R2 R3 R4 R5 R6 : Rs} (h : Own B w0 [R0, R1, R2, R3, R4, R5, R6] w) : Own B w0 [R1, R2, R3, R4, R5] w :=
 (h.drop.perm (List.perm_middle (l₁ := [R1, R2, R3, R4, R5]))).drop
theorem plays_fin7 {B : Nat} {w0 w : World} {R00 R0 R1 R2 R3 R4 R5 R6 : Rs} (h : Own B w0 [R00, R0, R1, R2, R3, R4, R5, R6] w) : Own B w0 [R1, R2, R3, R4, R5] w := plays_fin6 h.drop
set_option maxHeartbeats 16000000 in
set_option maxRecDepth 100000 in
theorem bufferPlays_walk (m0 : Int) (a : Option Addr) (c : Nat) (l : List OpT) (q : Option Addr) (d : Nat) (m : List OpT) (s : Option Addr) (t : Nat) (qa : List AskT) (w : World) (hl : GoodOps w a c l) (hm : GoodOps w q d m) (hs : Rd w 4 s qa.length t (asksV qa)) (has : ∀ x ∈ qa, OkAsk x) :
  Calls Tryz.prog 3 #[.int .i64 m0, .agg #[.slice a l.length c, .slice q m.length d], .slice s qa.length t] w (Yes w) := by
 have HA := Lib.hid (fun W => awakeB_any W)
 have hb0 := al1 w (.cells #[.slice a l.length c, .slice q m.length d] 24)
 obtain ⟨W, hW⟩ : ∃ W, w.alloc (.cells #[.slice a l.length c, .slice q m.length d] 24) = W := ⟨_, rfl⟩
 have x0 : W.cell? ⟨w.heap.size, 0, none⟩ = some (.slice a l.length c) := by rw [← hW]; simp
 have x1 : W.cell? ⟨w.heap.size, 1, none⟩ = some (.slice q m.length d) := by rw [← hW]; simp
 rw [hW] at hb0
 have HX : Hid (∀ V, Below W.heap.size W V → V.cell? ⟨w.heap.size, 0, none⟩ = some (.slice a l.length c) ∧ V.cell? ⟨w.heap.size, 1, none⟩ = some (.slice q m.length d)) := Lib.hid (fun V hb => ⟨old_cell x0 hb, old_cell x1 hb⟩)
 have HEnd : Hid (∀ V, Below W.heap.size W V → Below w.heap.size w V) := Lib.hid (fun V hb => hb0.trans (hb.mono hb0.size))
 have HL := Lib.hid (hl.later hb0)
 have HM := Lib.hid (hm.later hb0)
 have HF := Lib.hid (fun V (hb : Below W.heap.size W V) => few8_any a c l q d m V (HL.out.later hb) (HM.out.later hb))
 have HRt := Lib.hid (fun W => right_any m0 W)
 have hcap := HM.out.rd.cap
 have hle := HM.out.rd.le
 unfold maxLen at hcap
 have HAs := Lib.hid (And.intro (hs.later hb0) has)
 have hcap3 := hs.cap
 have hle3 := hs.le
 unfold maxLen at hcap3
 clear hb0 hl hm hs has
 by_cases hmo : okMost m0 = true
 case neg =>
  have hm2 : okMost m0 = false := by simpa using hmo
  rw [hm2] at HRt
  clear hmo hm2
  go_enter Tryz.func3, Tryz.ntmps3
  go_wp2_with (first | (go_at_call 10; refine (HRt.out _).mono ?_; rintro e V1 ⟨rfl, rfl⟩) | (go_at_call 12; refine (HA.out _).mono ?_; rintro e V9 ⟨rfl, hb⟩; have H9 := Lib.hid ((Below.refl W.heap.size W).trans (hb.mono (Below.refl W.heap.size W).size)); clear hb))
  go_ret
  exact ⟨rfl, HEnd.out _ H9.out⟩
 rw [hmo] at HRt
 have hm3 : 1 ≤ m0 ∧ m0 ≤ 1024 := by unfold okMost at hmo; simpa using hmo
 obtain ⟨most, rfl⟩ : ∃ n : Nat, m0 = n := ⟨m0.toNat, by omega⟩
 have hmm : 1 ≤ most ∧ most ≤ 1024 := by omega
 clear hmo hm3
 by_cases hf : fewT l ∧ fewT m
 case neg =>
  have hff : decide (fewT l ∧ fewT m) = false := by simpa using hf
  rw [hff] at HF
  clear hf hff hmm
  go_enter Tryz.func3, Tryz.ntmps3
  go_wp2_with (first | (go_at_call 10; refine (HRt.out _).mono ?_; rintro e V1 ⟨rfl, rfl⟩) | (go_at_call 11; refine (HF.out _ (Below.refl _ _)).mono ?_; rintro e V2 ⟨rfl, hb⟩; have H2 := Lib.hid hb; obtain ⟨x0, x1⟩ := HX.out _ hb; clear hb) | (go_at_call 12; refine (HA.out _).mono ?_; rintro e V9 ⟨rfl, hb⟩; have H9 := Lib.hid ((H2.out).trans (hb.mono (H2.out).size)); clear hb))
  go_ret
  exact ⟨rfl, HEnd.out _ H9.out⟩
 have hff : decide (fewT l ∧ fewT m) = true := by simpa using hf
 have hml : m.length ≤ 100 := hf.2.2
 rw [hff] at HF
 clear hf hff
 by_cases hk : qa.length ≤ 20
 case neg =>
  have hk2 : (20 : Int) < (qa.length : Int) := by omega
  clear hmm
  go_enter Tryz.func3, Tryz.ntmps3
  go_wp2_with (first | (go_at_call 10; refine (HRt.out _).mono ?_; rintro e V1 ⟨rfl, rfl⟩) | (go_at_call 11; refine (HF.out _ (Below.refl _ _)).mono ?_; rintro e V2 ⟨rfl, hb⟩; have H2 := Lib.hid hb; obtain ⟨x0, x1⟩ := HX.out _ hb; clear hb) | (go_at_call 12; refine (HA.out _).mono ?_; rintro e V9 ⟨rfl, hb⟩; have H9 := Lib.hid ((H2.out).trans (hb.mono (H2.out).size)); clear hb))
  go_ret
  exact ⟨rfl, HEnd.out _ H9.out⟩
 have hk2 : ¬ (20 : Int) < (qa.length : Int) := by omega
 have HMd := Lib.hid (fun V (hb : Below W.heap.size W V) => own_made most hmm a c l ((HL.out.later hb).rd) HL.out.ok ((Own.nil W).later hb))
 obtain ⟨L, hL⟩ : ∃ L, Tb.runT most l = L := ⟨_, rfl⟩
 rw [hL] at HMd
 have HNw := Lib.hid (fun tb X V (h : Own W.heap.size W X V) => own_bufMake tb h)
 have HRn : Hid (∀ bb tb r V, Own W.heap.size W [BufR bb tb [], TabR tb most 2 L, DocR r most L] V → Calls Tryz.prog 15 #[ptrV r] V fun e V2 => ∃ s rc, e = .returned (ptrV s) ∧ Own W.heap.size W [BufR bb tb [], TabR tb most 2 L, NoteR s rc [], DocR rc most L, DocR r most L] V2) := Lib.hid (fun bb tb r V h => by
  have okL := own_tabOk h.swap
  refine (own_refNew (by have := okL.len; have := okL.hi; omega) h.third).mono ?_
  rintro e V2 ⟨s, rc, e1, h2⟩
  exact ⟨s, rc, e1, plays_start h2⟩)
 clear hL hmm
 go_enter Tryz.func3, Tryz.ntmps3
 go_wp2_with (first
  | (go_at_call 10; refine (HRt.out _).mono ?_; rintro e V1 ⟨rfl, rfl⟩)
  | (go_at_call 11; refine (HF.out _ (Below.refl _ _)).mono ?_; rintro e V2 ⟨rfl, hb⟩; have H2 := Lib.hid hb; obtain ⟨x0, x1⟩ := HX.out _ hb; clear hb)
  | (go_at_call 13; refine (HMd.out _ H2.out).mono ?_; rintro e V3 ⟨tb, r, rfl, hb3, h3⟩; have H3 := Lib.hid h3; clear h3 hb3)
  | (go_at_call 14; refine (HNw.out _ _ _ H3.out).mono ?_; rintro e V4 ⟨bb, rfl, h4⟩; have H4 := Lib.hid h4; clear h4)
  | (go_at_call 15; refine (HRn.out _ _ _ _ H4.out).mono ?_; rintro e V4 ⟨sb, rc, rfl, h4⟩; have H4b := Lib.hid h4; clear h4))
 clear x0 x1
 go_loopw [12] (fun i wr => ∃ (j : Nat), j ≤ m.length ∧ i = .int .i64 j ∧ Hid (Own W.heap.size W [BufR bb tb (runB most L (m.take j)), TabR tb most 2 L, NoteR sb rc (runB most L (m.take j)), DocR rc most (overT (runB most L (m.take j)) L), DocR r most L] wr)) (fun i _ => m.length - (intOf i).toNat)
 case atStart => exact ⟨0, by omega, rfl, H4b⟩
 case round =>
  obtain ⟨j, hj, rfl, HJ⟩ := hrel
  have k0 : (0 : Int) ≤ (j : Int) := by omega
  obtain ⟨x0, x1⟩ := HX.out _ HJ.out.low
  by_cases hlt : j < m.length
  ·obtain ⟨⟨ask, k, r0, r1, r2, r3⟩, hx⟩ : ∃ x, m[j]? = some x := ⟨_, List.getElem?_eq_getElem hlt⟩
   obtain ⟨lb, lo, rfl, z0, z1, z2, z3, z4, z5⟩ := op_at HM.out.rd hx
   have HX2 : Hid (∀ V, Below W.heap.size W V → V.cell? ⟨w.heap.size, 1, none⟩ = some (.slice (some ⟨lb, lo, none⟩) m.length d) ∧ V.cell? ⟨lb, lo + j * 6, none⟩ = some (.int .i64 ask) ∧ V.cell? ⟨lb, lo + j * 6 + 1, none⟩ = some (.string ⟨k.toArray⟩) ∧ V.cell? ⟨lb, lo + j * 6 + 2, none⟩ = some (.int .i64 r0) ∧ V.cell? ⟨lb, lo + j * 6 + 3, none⟩ = some (.int .i64 r1) ∧ V.cell? ⟨lb, lo + j * 6 + 4, none⟩ = some (.int .i64 r2) ∧ V.cell? ⟨lb, lo + j * 6 + 5, none⟩ = some (.int .i64 r3)) := Lib.hid (fun V hb => ⟨(HX.out V hb).2, old_cell z0 hb, old_cell z1 hb, old_cell z2 hb, old_cell z3 hb, old_cell z4 hb, old_cell z5 hb⟩)
   have k1 : (j : Int) < (m.length : Int) := by omega
   have hwl : (runB most L (m.take j)).length ≤ 90000 := by
    have h1 := runB_len (most := most) (L := L) (m.take j)
    have h2 := List.length_take_le j m
    omega
   have HWl : Hid ((runB most L (m.take (j + 1))).length ≤ 100000) := Lib.hid (by
    have h1 := runB_len (most := most) (L := L) (m.take (j + 1))
    have h2 := List.length_take_le (j + 1) m
    omega)
   have HD := Lib.hid (own_does8 (ask, k, r0, r1, r2, r3) (HM.out.ok _ (List.mem_of_getElem? hx)) hwl (HJ.out.later (below_drewN wr 1)))
   rw [← runB_succ hx] at HD
   obtain ⟨Nn, hNn⟩ : ∃ Nn, (overT (runB most L (m.take (j + 1))) L).length = Nn := ⟨_, rfl⟩
   have HNn := Lib.hid hNn
   have kn : ((Nn : Int) != (Nn : Int)) = false := by simp
   have kn2 : decide ((Nn : Int) = (Nn : Int)) = true := by simp
   clear hx z0 z1 z2 z3 z4 z5 hwl hNn
   go_wp2
   refine wp_region_held_drew (S := (fun V => V.cell? ⟨w.heap.size, 1, none⟩ = some (.slice (some ⟨lb, lo, none⟩) m.length d) ∧ V.cell? ⟨lb, lo + j * 6, none⟩ = some (.int .i64 ask) ∧ V.cell? ⟨lb, lo + j * 6 + 1, none⟩ = some (.string ⟨k.toArray⟩) ∧ V.cell? ⟨lb, lo + j * 6 + 2, none⟩ = some (.int .i64 r0) ∧ V.cell? ⟨lb, lo + j * 6 + 3, none⟩ = some (.int .i64 r1) ∧ V.cell? ⟨lb, lo + j * 6 + 4, none⟩ = some (.int .i64 r2) ∧ V.cell? ⟨lb, lo + j * 6 + 5, none⟩ = some (.int .i64 r3))) (by kernel_rfl) (HX2.out _ (HJ.out.later (below_drewN wr 1)).low) (fun hH0a => ?_)
   refine zzT (i := 0) (v := ?va0) rfl (by kernel_rfl) (fun _ _ _ h => h) ?ha0 hH0a ?ra0
   case ha0 => (intro W h; (try dsimp only at h); go_simp; all_goals (with_reducible rfl))
   try simp only [zzA, zzC, Act.put, zzD, zzE, zzF]
   refine zzT (i := 1) (v := ?va1) rfl (by kernel_rfl) (fun _ _ _ h => h) ?ha1 hH0a ?ra1
   case ha1 => (intro W h; (try dsimp only at h); go_simp; all_goals (with_reducible rfl))
   try simp only [zzA, zzB, zzC, Act.put, zzD, zzE, zzF]
   refine zzT (i := 2) (v := ?va2) rfl (by kernel_rfl) (fun _ _ _ h => h) ?ha2 hH0a ?ra2
   case ha2 => (intro W h; (try dsimp only at h); go_simp; all_goals (with_reducible rfl))
   try simp only [zzA, zzB, zzC, Act.put, zzD, zzE, zzF]
   refine zzT (i := 3) (v := ?va3) rfl (by kernel_rfl) (fun _ _ _ h => h) ?ha3 hH0a ?ra3
   case ha3 => (intro W h; (try dsimp only at h); go_simp; all_goals (with_reducible rfl))
   try simp only [zzA, zzB, zzC, Act.put, zzD, zzE, zzF]
   refine zzT (i := 4) (v := ?va4) rfl (by kernel_rfl) (fun _ _ _ h => h) ?ha4 hH0a ?ra4
   case ha4 => (intro W h; (try dsimp only at h); go_simp; all_goals (with_reducible rfl))
   try simp only [zzA, zzB, zzC, Act.put, zzD, zzE, zzF]
   refine zzT (i := 5) (v := ?va5) rfl (by kernel_rfl) (fun _ _ _ h => h) ?ha5 hH0a ?ra5
   case ha5 => (intro W h; (try dsimp only at h); go_simp; all_goals (with_reducible rfl))
   try simp only [zzA, zzB, zzC, Act.put, zzD, zzE, zzF]
   refine zzT (i := 6) (v := ?va6) rfl (by kernel_rfl) (fun _ _ _ h => h) ?ha6 hH0a ?ra6
   case ha6 => (intro W h; (try dsimp only at h); go_simp; all_goals (with_reducible rfl))
   try simp only [zzA, zzB, zzC, Act.put, zzD, zzE, zzF]
   refine wpAnyH_ready (rs := [7]) (by kernel_rfl) (by simp) ?_
   refine AllReadyH.cons rfl (fun K hK => ?_) AllReadyH.nil
   simp only [zzA, zzB, zzC]
   go_simp
   (go_at_call 16; refine HD.out.mono ?_; rintro e V5 ⟨rfl, h5⟩; have H5 := Lib.hid h5; clear h5)
   obtain ⟨da, dc, q1⟩ := own_docAtP H5.out (r := rc) (most := most) (L := overT (runB most L (m.take (j + 1))) L) (by simp)
   rw [HNn.out] at q1
   have q0 := (own_noteM H5.out (s := sb) (rt := rc) (W := runB most L (m.take (j + 1))) (by simp)).1
   have HL2 := Lib.hid (own_bufLen HWl.out H5.out)
   rw [HNn.out] at HL2
   refine hK.out _ _ (HX2.out V5 H5.out.low) (fun hH1a => ?_)
   clear hK K hH0a
   try simp only [zzA, zzB, zzC, Act.put, zzD, zzE, zzF]
   refine zzT (i := 8) (v := ?va8) rfl (by kernel_rfl) (fun _ _ _ h => h) ?ha8 hH1a ?ra8
   case ha8 => (intro W h; (try dsimp only at h); go_simp; all_goals (with_reducible rfl))
   try simp only [zzA, zzB, zzC, Act.put, zzD, zzE, zzF]
   refine zzT (i := 9) (v := ?va9) rfl (by kernel_rfl) (fun _ _ _ h => h) ?ha9 hH1a ?ra9
   case ha9 => (intro W h; (try dsimp only at h); go_simp; all_goals (with_reducible rfl))
   try simp only [zzA, zzB, zzC, Act.put, zzD, zzE, zzF]
   refine wpAnyH_mono (S' := (fun V => (V.cell? ⟨w.heap.size, 1, none⟩ = some (.slice (some ⟨lb, lo, none⟩) m.length d) ∧ V.cell? ⟨lb, lo + j * 6, none⟩ = some (.int .i64 ask) ∧ V.cell? ⟨lb, lo + j * 6 + 1, none⟩ = some (.string ⟨k.toArray⟩) ∧ V.cell? ⟨lb, lo + j * 6 + 2, none⟩ = some (.int .i64 r0) ∧ V.cell? ⟨lb, lo + j * 6 + 3, none⟩ = some (.int .i64 r1) ∧ V.cell? ⟨lb, lo + j * 6 + 4, none⟩ = some (.int .i64 r2) ∧ V.cell? ⟨lb, lo + j * 6 + 5, none⟩ = some (.int .i64 r3)) ∧ V.cell? ⟨sb, 0, none⟩ = some (ptrV rc) ∧ V.cell? ⟨rc, 0, none⟩ = some (.slice da Nn dc))) (fun _ h => h.1) _ _ _ _ ?_
   have hH2a := And.intro hH1a (And.intro q0 q1)
   clear hH1a
   refine zzT (i := 10) (v := ?va10) rfl (by kernel_rfl) (fun _ _ _ h => h) ?ha10 hH2a ?ra10
   case ha10 => (intro W h; (try dsimp only at h); go_simp; all_goals (with_reducible rfl))
   try simp only [zzA, zzB, zzC, Act.put, zzD, zzE, zzF]
   refine zzT (i := 12) (v := ?va12) rfl (by kernel_rfl) (fun _ _ _ h => h) ?ha12 hH2a ?ra12
   case ha12 => (intro W h; (try dsimp only at h); go_simp; all_goals (with_reducible rfl))
   try simp only [zzA, zzB, zzC, Act.put, zzD, zzE, zzF]
   refine zzT (i := 13) (v := ?va13) rfl (by kernel_rfl) (fun _ _ _ h => h) ?ha13 hH2a ?ra13
   case ha13 => (intro W h; (try dsimp only at h); go_simp; all_goals (with_reducible rfl))
   try simp only [zzA, zzB, zzC, Act.put, zzD, zzE, zzF]
   refine zzT (i := 14) (v := ?va14) rfl (by kernel_rfl) (fun _ _ _ h => h) ?ha14 hH2a ?ra14
   case ha14 => (intro W h; (try dsimp only at h); go_simp; all_goals (with_reducible rfl))
   try simp only [zzA, zzB, zzC, Act.put, zzD, zzE, zzF]
   refine zzT (i := 15) (v := ?va15) rfl (by kernel_rfl) (fun _ _ _ h => h) ?ha15 hH2a ?ra15
   case ha15 => (intro W h; (try dsimp only at h); go_simp; all_goals (with_reducible rfl))
   try simp only [zzA, zzB, zzC, Act.put, zzD, zzE, zzF]
   refine zzT (i := 16) (v := ?va16) rfl (by kernel_rfl) (fun _ _ _ h => h) ?ha16 hH2a ?ra16
   case ha16 => (intro W h; (try dsimp only at h); go_simp; all_goals (with_reducible rfl))
   try simp only [zzA, zzB, zzC, Act.put, zzD, zzE, zzF]
   refine zzT (i := 17) (v := ?va17) rfl (by kernel_rfl) (fun _ _ _ h => h) ?ha17 hH2a ?ra17
   case ha17 => (intro W h; (try dsimp only at h); go_simp; all_goals (with_reducible rfl))
   try simp only [zzA, zzB, zzC, Act.put, zzD, zzE, zzF]
   refine zzT (i := 18) (v := ?va18) rfl (by kernel_rfl) (fun _ _ _ h => h) ?ha18 hH2a ?ra18
   case ha18 => (intro W h; (try dsimp only at h); go_simp; all_goals (with_reducible rfl))
   try simp only [zzA, zzB, zzC, Act.put, zzD, zzE, zzF]
   refine zzT (i := 19) (v := ?va19) rfl (by kernel_rfl) (fun _ _ _ h => h) ?ha19 hH2a ?ra19
   case ha19 => (intro W h; (try dsimp only at h); go_simp; all_goals (with_reducible rfl))
   try simp only [zzA, zzB, zzC, Act.put, zzD, zzE, zzF]
   refine wpAnyH_ready (rs := [11]) (by kernel_rfl) (by simp) ?_
   refine AllReadyH.cons rfl (fun K hK => ?_) AllReadyH.nil
   simp only [zzA, zzB, zzC]
   go_simp
   (go_at_call 17; refine HL2.out.mono ?_; rintro e V6 ⟨rfl, hb⟩; have H6 := Lib.hid (H5.out.later hb))
   refine hK.out _ _ (⟨HX2.out _ H6.out.low, old_cell hH2a.2.1 hb, old_cell hH2a.2.2 hb⟩) (fun hH3a => ?_)
   clear hK K hH2a
   try simp only [zzA, zzB, zzC, Act.put, zzD, zzE, zzF]
   refine zzT (i := 20) (v := ?va20) rfl (by kernel_rfl) (fun _ _ _ h => h) ?ha20 hH3a ?ra20
   case ha20 => (intro W h; (try dsimp only at h); go_simp; all_goals (with_reducible rfl))
   try simp only [zzA, zzB, zzC, Act.put, zzD, zzE, zzF]
   refine zzT (i := 21) (v := ?va21) rfl (by kernel_rfl) (fun _ _ _ h => h) ?ha21 hH3a ?ra21
   case ha21 => (intro W h; (try dsimp only at h); go_simp; all_goals (with_reducible rfl))
   try simp only [zzA, zzB, zzC, Act.put, zzD, zzE, zzF]
   refine wpAnyH_done (by kernel_rfl) ?_ _
   go_wp2
   go_roundw
   case rel => exact ⟨j + 1, by omega, by go_num, H6⟩
   case measure => simp [intOf]; omega
  ·obtain rfl : j = m.length := by omega
   have k1 : ¬ (m.length : Int) < (m.length : Int) := by omega
   rw [List.take_length] at HJ
   have hWl : (runB most L m).length ≤ 100 := by
    have h1 := runB_len (most := most) (L := L) m
    omega
   obtain ⟨Wb, hWb⟩ : ∃ Wb, runB most L m = Wb := ⟨_, rfl⟩
   rw [hWb] at HJ hWl
   have okL := own_tabOk HJ.out.swap
   have sL := own_tabSorted HJ.out.swap
   have okW := own_bufOk HJ.out
   have sW := own_bufSorted HJ.out
   have hAl : (overT Wb L).length ≤ 2000 := by
    have h1 := over_bound (W := Wb) (L := L) sW sL
    have := okL.len
    have := okL.hi
    omega
   have hokA := over_ok okW okL.ok
   have hsA := over_sorted Wb sL
   obtain ⟨A, hA⟩ : ∃ A, overT Wb L = A := ⟨_, rfl⟩
   rw [hA] at HJ hAl hokA hsA
   have HAw := Lib.hid (And.intro hA (And.intro hAl (And.intro hokA hsA)))
   clear hWb k1 k0 okL sL okW sW hAl hokA hsA hA
   go_wp2
   clear x0 x1
   go_loopw [13] (fun i wr => ∃ (u : Nat), u ≤ qa.length ∧ i = .int .i64 u ∧ Hid (Own W.heap.size W [BufR bb tb Wb, TabR tb most 2 L, NoteR sb rc Wb, DocR rc most A, DocR r most L] wr)) (fun i _ => qa.length - (intOf i).toNat)
   case atStart => exact ⟨0, by omega, rfl, HJ⟩
   clear HJ
   case round =>
    obtain ⟨u, hu, rfl, HU⟩ := hrel
    have u0 : (0 : Int) ≤ (u : Int) := by omega
    by_cases hul : u < qa.length
    ·have u1 : (u : Int) < (qa.length : Int) := by omega
     obtain ⟨⟨fc, flo, fhi, fm⟩, hx⟩ : ∃ x, qa[u]? = some x := ⟨_, List.getElem?_eq_getElem hul⟩
     obtain ⟨pb, po, rfl, z0, z1, z2, z3⟩ := ask_at HAs.out.1 hx
     have y0 := old_cell z0 HU.out.low
     have y1 := old_cell z1 HU.out.low
     have y2 := old_cell z2 HU.out.low
     have y3 := old_cell z3 HU.out.low
     have hok := HAs.out.2 _ (List.mem_of_getElem? hx)
     have hb := (own_cells HU.out #[.int .i64 fc, .int .i64 flo, .int .i64 fhi, .int .i64 fm] 52).perm (List.perm_middle (l₁ := [_, _, _, _, _])).symm
     obtain ⟨W3, hW3⟩ : ∃ W3, wr.alloc (.cells #[.int .i64 fc, .int .i64 flo, .int .i64 fhi, .int .i64 fm] 52) = W3 := ⟨_, rfl⟩
     rw [hW3] at hb
     obtain ⟨P, hP⟩ : ∃ P, wr.heap.size = P := ⟨_, rfl⟩
     rw [hP] at hb
     have HB := Lib.hid hb
     have HC : Hid (∀ (Y : List Rs) V, Own W.heap.size W Y V → NoteR sb rc Wb ∈ Y → CellsR P [.int .i64 fc, .int .i64 flo, .int .i64 fhi, .int .i64 fm] ∈ Y → V.cell? ⟨sb, 0, none⟩ = some (ptrV rc) ∧ V.cell? ⟨P, 0, none⟩ = some (.int .i64 fc) ∧ V.cell? ⟨P, 1, none⟩ = some (.int .i64 flo) ∧ V.cell? ⟨P, 2, none⟩ = some (.int .i64 fhi) ∧ V.cell? ⟨P, 3, none⟩ = some (.int .i64 fm)) := Lib.hid (fun Y V h hn hm =>
      ⟨(own_noteM h hn).1, (own_cellM h hm (i := 0) rfl).1, (own_cellM h hm (i := 1) rfl).1, (own_cellM h hm (i := 2) rfl).1, (own_cellM h hm (i := 3) rfl).1⟩)
     obtain ⟨c4, c0, c1, c2, c3⟩ := HC.out _ _ HB.out (by simp) (by simp)
     have hfd := own_bufFindAll fc flo fhi fm hok.2.1 hok.2.2 (by omega) HB.out
     rw [HAw.out.1] at hfd
     have HOk := Lib.hid hok
     clear hx z0 z1 z2 z3 hb hok
     rcases findE_cases fc flo fhi fm with ⟨e, hx⟩ | ⟨e, q0, q3, ql, qm⟩ | ⟨e, q0, q3, ql, qm⟩
     ·have ek : findK fc flo fhi fm A = [] := by unfold findK; rw [if_neg (by rw [e]; omega)]
      rw [ek, e] at hfd
      have HF1 := Lib.hid hfd
      clear hfd ek e
      by_cases qm : fm < 0
      ·by_cases qc : fc < 0
       ·have p0 : decide (fm < 0) = true := by simpa using (by omega : fm < 0)
        have p1 : decide (fc < 0) = true := by simpa using (by omega : fc < 0)
        go_wp2_with (go_at_call 18; refine HF1.out.mono ?_; rintro e V5 ⟨a5, k5, rfl, h5⟩; obtain ⟨v4, v0, v1, v2, v3⟩ := HC.out _ _ h5 (by simp) (by simp); have H5 := Lib.hid h5; clear h5)
        go_quiet (fail)
        go_wp2
        go_roundw
        case rel => exact ⟨u + 1, by omega, by go_num, Lib.hid (plays_fin6 (H5.out.later (below_drewN V5 nq)))⟩
        case measure => simp [intOf]; omega
       by_cases qc3 : 3 < fc
       ·have p0 : decide (fm < 0) = true := by simpa using (by omega : fm < 0)
        have p1 : decide (fc < 0) = false := by simpa using (by omega : ¬ fc < 0)
        have p2 : decide (3 < fc) = true := by simpa using (by omega : 3 < fc)
        go_wp2_with (go_at_call 18; refine HF1.out.mono ?_; rintro e V5 ⟨a5, k5, rfl, h5⟩; obtain ⟨v4, v0, v1, v2, v3⟩ := HC.out _ _ h5 (by simp) (by simp); have H5 := Lib.hid h5; clear h5)
        go_quiet (fail)
        go_wp2
        go_roundw
        case rel => exact ⟨u + 1, by omega, by go_num, Lib.hid (plays_fin6 (H5.out.later (below_drewN V5 nq)))⟩
        case measure => simp [intOf]; omega
       have ql : fhi < flo := by omega
       have p0 : decide (fm < 0) = true := by simpa using (by omega : fm < 0)
       have p1 : decide (fc < 0) = false := by simpa using (by omega : ¬ fc < 0)
       have p2 : decide (3 < fc) = false := by simpa using (by omega : ¬ 3 < fc)
       have p3 : decide (fhi < flo) = true := by simpa using (by omega : fhi < flo)
       go_wp2_with (go_at_call 18; refine HF1.out.mono ?_; rintro e V5 ⟨a5, k5, rfl, h5⟩; obtain ⟨v4, v0, v1, v2, v3⟩ := HC.out _ _ h5 (by simp) (by simp); have H5 := Lib.hid h5; clear h5)
       go_quiet (fail)
       go_wp2
       go_roundw
       case rel => exact ⟨u + 1, by omega, by go_num, Lib.hid (plays_fin6 (H5.out.later (below_drewN V5 nq)))⟩
       case measure => simp [intOf]; omega
      ·by_cases qc : fc < 0
       ·have p0 : decide (fm < 0) = false := by simpa using (by omega : ¬ fm < 0)
        have p1 : decide (fc < 0) = true := by simpa using (by omega : fc < 0)
        go_wp2_with (go_at_call 18; refine HF1.out.mono ?_; rintro e V5 ⟨a5, k5, rfl, h5⟩; obtain ⟨v4, v0, v1, v2, v3⟩ := HC.out _ _ h5 (by simp) (by simp); have H5 := Lib.hid h5; clear h5)
        go_quiet (fail)
        go_wp2
        go_roundw
        case rel => exact ⟨u + 1, by omega, by go_num, Lib.hid (plays_fin6 (H5.out.later (below_drewN V5 nq)))⟩
        case measure => simp [intOf]; omega
       by_cases qc3 : 3 < fc
       ·have p0 : decide (fm < 0) = false := by simpa using (by omega : ¬ fm < 0)
        have p1 : decide (fc < 0) = false := by simpa using (by omega : ¬ fc < 0)
        have p2 : decide (3 < fc) = true := by simpa using (by omega : 3 < fc)
        go_wp2_with (go_at_call 18; refine HF1.out.mono ?_; rintro e V5 ⟨a5, k5, rfl, h5⟩; obtain ⟨v4, v0, v1, v2, v3⟩ := HC.out _ _ h5 (by simp) (by simp); have H5 := Lib.hid h5; clear h5)
        go_quiet (fail)
        go_wp2
        go_roundw
        case rel => exact ⟨u + 1, by omega, by go_num, Lib.hid (plays_fin6 (H5.out.later (below_drewN V5 nq)))⟩
        case measure => simp [intOf]; omega
       have ql : fhi < flo := by omega
       have p0 : decide (fm < 0) = false := by simpa using (by omega : ¬ fm < 0)
       have p1 : decide (fc < 0) = false := by simpa using (by omega : ¬ fc < 0)
       have p2 : decide (3 < fc) = false := by simpa using (by omega : ¬ 3 < fc)
       have p3 : decide (fhi < flo) = true := by simpa using (by omega : fhi < flo)
       go_wp2_with (go_at_call 18; refine HF1.out.mono ?_; rintro e V5 ⟨a5, k5, rfl, h5⟩; obtain ⟨v4, v0, v1, v2, v3⟩ := HC.out _ _ h5 (by simp) (by simp); have H5 := Lib.hid h5; clear h5)
       go_quiet (fail)
       go_wp2
       go_roundw
       case rel => exact ⟨u + 1, by omega, by go_num, Lib.hid (plays_fin6 (H5.out.later (below_drewN V5 nq)))⟩
       case measure => simp [intOf]; omega
     ·have ek : findK fc flo fhi fm A = [] := by unfold findK; rw [if_neg (by rw [e]; omega)]
      rw [ek, e] at hfd
      have HF1 := Lib.hid hfd
      clear hfd ek e
      have p0 : decide (fm < 0) = true := by simpa using (by omega : fm < 0)
      have p1 : decide (fc < 0) = false := by simpa using (by omega : ¬ fc < 0)
      have p2 : decide (3 < fc) = false := by simpa using (by omega : ¬ 3 < fc)
      have p3 : decide (fhi < flo) = false := by simpa using (by omega : ¬ fhi < flo)
      have n1 : ¬ fc < 0 := by omega
      have n2 : ¬ 3 < fc := by omega
      have n3 : ¬ fhi < flo := by omega
      go_wp2_with (go_at_call 18; refine HF1.out.mono ?_; rintro e V5 ⟨a5, k5, rfl, h5⟩; obtain ⟨v4, v0, v1, v2, v3⟩ := HC.out _ _ h5 (by simp) (by simp); have H5 := Lib.hid h5; clear h5)
      go_quiet (fail)
      go_wp2
      go_roundw
      case rel => exact ⟨u + 1, by omega, by go_num, Lib.hid (plays_fin6 (H5.out.later (below_drewN V5 nq)))⟩
      case measure => simp [intOf]; omega
     ·obtain ⟨n, rfl⟩ : ∃ n : Nat, fc = n := ⟨fc.toNat, by omega⟩
      obtain ⟨z, rfl⟩ : ∃ z : Nat, fm = z := ⟨fm.toNat, by omega⟩
      have ek : findK (n : Int) flo fhi (z : Int) A = (keysOf (hits n flo fhi A)).take z := by unfold findK; rw [if_pos e]; rfl
      have hKl : ((keysOf (hits n flo fhi A)).take z).length ≤ 100000 := by
       rw [← ek]
       exact findK_len HAw.out.2.2.1 HOk.out.2.1 HOk.out.2.2 HAw.out.2.2.2 (by have := HAw.out.2.1; omega)
      rw [ek, e] at hfd
      obtain ⟨KF, hKF⟩ : ∃ KF, (keysOf (hits n flo fhi A)).take z = KF := ⟨_, rfl⟩
      rw [hKF] at hfd hKl
      have HF1 := Lib.hid hfd
      have HTx : Hid (∀ (a b : Option Addr) (k k2 : Nat) V, Rd V 1 a KF.length k (textsV KF) → Rd V 1 b KF.length k2 (textsV KF) → Calls Tryz.prog 19 #[.slice a KF.length k, .slice b KF.length k2] V fun e V2 => e = .returned (.bool true) ∧ Below V.heap.size V V2) := Lib.hid (fun a b k k2 V h1 h2 => by
       have := texts_any a k KF b k2 KF V (by omega) h1 h2
       simpa using this)
      have HFd : Hid (∀ {a5 : Option Addr} {k5 : Nat} V, Own W.heap.size W [SlR 1 a5 KF.length k5 (textsV KF), BufR bb tb Wb, TabR tb most 2 L, NoteR sb rc Wb, DocR rc most A, DocR r most L, CellsR P [.int .i64 n, .int .i64 flo, .int .i64 fhi, .int .i64 z]] V → Calls Tryz.prog 20 #[ptrV rc, .int .i64 n, .agg #[.int .i64 flo, .int .i64 fhi], .int .i64 z] V fun e V2 => ∃ (b : Option Addr) (k : Nat), e = .returned (.slice b KF.length k) ∧
        Own W.heap.size W [SlR 1 b KF.length k (textsV KF), SlR 1 a5 KF.length k5 (textsV KF), BufR bb tb Wb, TabR tb most 2 L, NoteR sb rc Wb, DocR rc most A, DocR r most L, CellsR P [.int .i64 n, .int .i64 flo, .int .i64 fhi, .int .i64 z]] V2) := Lib.hid (fun V h => by
       have := own_docFindP n (by omega) flo fhi HOk.out.2.1 HOk.out.2.2 z (by have := HAw.out.2.1; omega) HAw.out.2.2.1 HAw.out.2.2.2 h (r := rc) (most := most) (by simp)
       rwa [hKF] at this)
      have p0 : decide ((z : Int) < 0) = false := by simp
      have p1 : decide ((n : Int) < 0) = false := by simp
      have p2 : decide (3 < (n : Int)) = false := by simpa using (by omega : ¬ 3 < (n : Int))
      have p3 : decide (fhi < flo) = false := by simpa using (by omega : ¬ fhi < flo)
      have n0 : ¬ (z : Int) < 0 := by omega
      have n1 : ¬ (n : Int) < 0 := by omega
      have n2 : ¬ 3 < (n : Int) := by omega
      have n3 : ¬ fhi < flo := by omega
      clear hfd ek e hKF hKl
      go_wp2_with (go_at_call 18; refine HF1.out.mono ?_; rintro e V5 ⟨a5, k5, rfl, h5⟩; obtain ⟨v4, v0, v1, v2, v3⟩ := HC.out _ _ h5 (by simp) (by simp); have H5 := Lib.hid h5; clear h5)
      refine wp_region_held_drew (S := (fun V => V.cell? ⟨sb, 0, none⟩ = some (ptrV rc) ∧ V.cell? ⟨P, 0, none⟩ = some (.int .i64 n) ∧ V.cell? ⟨P, 1, none⟩ = some (.int .i64 flo) ∧ V.cell? ⟨P, 2, none⟩ = some (.int .i64 fhi) ∧ V.cell? ⟨P, 3, none⟩ = some (.int .i64 z))) (by kernel_rfl) (HC.out _ _ (H5.out.later (below_drewN V5 1)) (by simp) (by simp)) (fun hH0b => ?_)
      refine zzT (i := 0) (v := ?vb0) rfl (by kernel_rfl) (fun _ _ _ h => h) ?hb0 hH0b ?rb0
      case hb0 => (intro W h; (try dsimp only at h); go_simp; all_goals (with_reducible rfl))
      try simp only [zzA, zzC, Act.put, zzD, zzE, zzF]
      refine zzT (i := 1) (v := ?vb1) rfl (by kernel_rfl) (fun _ _ _ h => h) ?hb1 hH0b ?rb1
      case hb1 => (intro W h; (try dsimp only at h); go_simp; all_goals (with_reducible rfl))
      try simp only [zzA, zzB, zzC, Act.put, zzD, zzE, zzF]
      refine zzT (i := 2) (v := ?vb2) rfl (by kernel_rfl) (fun _ _ _ h => h) ?hb2 hH0b ?rb2
      case hb2 => (intro W h; (try dsimp only at h); go_simp; all_goals (with_reducible rfl))
      try simp only [zzA, zzB, zzC, Act.put, zzD, zzE, zzF]
      refine zzT (i := 3) (v := ?vb3) rfl (by kernel_rfl) (fun _ _ _ h => h) ?hb3 hH0b ?rb3
      case hb3 => (intro W h; (try dsimp only at h); go_simp; all_goals (with_reducible rfl))
      try simp only [zzA, zzB, zzC, Act.put, zzD, zzE, zzF]
      refine zzT (i := 4) (v := ?vb4) rfl (by kernel_rfl) (fun _ _ _ h => h) ?hb4 hH0b ?rb4
      case hb4 => (intro W h; (try dsimp only at h); go_simp; all_goals (with_reducible rfl))
      try simp only [zzA, zzB, zzC, Act.put, zzD, zzE, zzF]
      refine zzT (i := 5) (v := ?vb5) rfl (by kernel_rfl) (fun _ _ _ h => h) ?hb5 hH0b ?rb5
      case hb5 => (intro W h; (try dsimp only at h); go_simp; all_goals (with_reducible rfl))
      try simp only [zzA, zzB, zzC, Act.put, zzD, zzE, zzF]
      refine zzT (i := 6) (v := ?vb6) rfl (by kernel_rfl) (fun _ _ _ h => h) ?hb6 hH0b ?rb6
      case hb6 => (intro W h; (try dsimp only at h); go_simp; all_goals (with_reducible rfl))
      try simp only [zzA, zzB, zzC, Act.put, zzD, zzE, zzF]
      refine zzT (i := 7) (v := ?vb7) rfl (by kernel_rfl) (fun _ _ _ h => h) ?hb7 hH0b ?rb7
      case hb7 => (intro W h; (try dsimp only at h); go_simp; all_goals (with_reducible rfl))
      try simp only [zzA, zzB, zzC, Act.put, zzD, zzE, zzF]
      refine zzT (i := 8) (v := ?vb8) rfl (by kernel_rfl) (fun _ _ _ h => h) ?hb8 hH0b ?rb8
      case hb8 => (intro W h; (try dsimp only at h); go_simp; all_goals (with_reducible rfl))
      try simp only [zzA, zzB, zzC, Act.put, zzD, zzE, zzF]
      refine zzT (i := 9) (v := ?vb9) rfl (by kernel_rfl) (fun _ _ _ h => h) ?hb9 hH0b ?rb9
      case hb9 => (intro W h; (try dsimp only at h); go_simp; all_goals (with_reducible rfl))
      try simp only [zzA, zzB, zzC, Act.put, zzD, zzE, zzF]
      refine zzT (i := 10) (v := ?vb10) rfl (by kernel_rfl) (fun _ _ _ h => h) ?hb10 hH0b ?rb10
      case hb10 => (intro W h; (try dsimp only at h); go_simp; all_goals (with_reducible rfl))
      try simp only [zzA, zzB, zzC, Act.put, zzD, zzE, zzF]
      refine zzT (i := 11) (v := ?vb11) rfl (by kernel_rfl) (fun _ _ _ h => h) ?hb11 hH0b ?rb11
      case hb11 => (intro W h; (try dsimp only at h); go_simp; all_goals (with_reducible rfl))
      try simp only [zzA, zzB, zzC, Act.put, zzD, zzE, zzF]
      refine zzT (i := 12) (v := ?vb12) rfl (by kernel_rfl) (fun _ _ _ h => h) ?hb12 hH0b ?rb12
      case hb12 => (intro W h; (try dsimp only at h); go_simp; all_goals (with_reducible rfl))
      try simp only [zzA, zzB, zzC, Act.put, zzD, zzE, zzF]
      refine zzT (i := 13) (v := ?vb13) rfl (by kernel_rfl) (fun _ _ _ h => h) ?hb13 hH0b ?rb13
      case hb13 => (intro W h; (try dsimp only at h); go_simp; all_goals (with_reducible rfl))
      try simp only [zzA, zzB, zzC, Act.put, zzD, zzE, zzF]
      refine zzT (i := 14) (v := ?vb14) rfl (by kernel_rfl) (fun _ _ _ h => h) ?hb14 hH0b ?rb14
      case hb14 => (intro W h; (try dsimp only at h); go_simp; all_goals (with_reducible rfl))
      try simp only [zzA, zzB, zzC, Act.put, zzD, zzE, zzF]
      refine zzT (i := 15) (v := ?vb15) rfl (by kernel_rfl) (fun _ _ _ h => h) ?hb15 hH0b ?rb15
      case hb15 => (intro W h; (try dsimp only at h); go_simp; all_goals (with_reducible rfl))
      try simp only [zzA, zzB, zzC, Act.put, zzD, zzE, zzF]
      refine zzT (i := 16) (v := ?vb16) rfl (by kernel_rfl) (fun _ _ _ h => h) ?hb16 hH0b ?rb16
      case hb16 => (intro W h; (try dsimp only at h); go_simp; all_goals (with_reducible rfl))
      try simp only [zzA, zzB, zzC, Act.put, zzD, zzE, zzF]
      refine wpAnyH_ready (rs := [17]) (by kernel_rfl) (by simp) ?_
      refine AllReadyH.cons rfl (fun K hK => ?_) AllReadyH.nil
      simp only [zzA, zzB, zzC]
      go_simp
      (go_at_call 20; refine (HFd.out _ (H5.out.later (below_drewN V5 1))).mono ?_; rintro e V6 ⟨a6, k6, rfl, h6⟩; have H6 := Lib.hid h6; clear h6)
      refine hK.out _ _ (HC.out _ _ H6.out (by simp) (by simp)) (fun hH1b => ?_)
      clear hK K hH0b
      try simp only [zzA, zzB, zzC, Act.put, zzD, zzE, zzF]
      refine wpAnyH_ready (rs := [18]) (by kernel_rfl) (by simp) ?_
      refine AllReadyH.cons rfl (fun K hK => ?_) AllReadyH.nil
      simp only [zzA, zzB, zzC]
      go_simp
      (go_at_call 19; refine (HTx.out _ _ _ _ _ (own_rdM H6.out (by simp)) (own_rd H6.out)).mono ?_; rintro e V7 ⟨rfl, hb⟩; have H8 := Lib.hid (H6.out.later hb); clear hb)
      refine hK.out _ _ (HC.out _ _ H8.out (by simp) (by simp)) (fun hH2b => ?_)
      clear hK K hH1b
      try simp only [zzA, zzB, zzC, Act.put, zzD, zzE, zzF]
      refine zzT (i := 19) (v := ?vb19) rfl (by kernel_rfl) (fun _ _ _ h => h) ?hb19 hH2b ?rb19
      case hb19 => (intro W h; (try dsimp only at h); go_simp; all_goals (with_reducible rfl))
      try simp only [zzA, zzB, zzC, Act.put, zzD, zzE, zzF]
      refine zzT (i := 20) (v := ?vb20) rfl (by kernel_rfl) (fun _ _ _ h => h) ?hb20 hH2b ?rb20
      case hb20 => (intro W h; (try dsimp only at h); go_simp; all_goals (with_reducible rfl))
      try simp only [zzA, zzB, zzC, Act.put, zzD, zzE, zzF]
      refine wpAnyH_done (by kernel_rfl) ?_ _
      go_wp2
      go_roundw
      case rel => exact ⟨u + 1, by omega, by go_num, Lib.hid (plays_fin7 H8.out)⟩
      case measure => simp [intOf]; omega
    ·obtain rfl : u = qa.length := by omega
     have u1 : ¬ (qa.length : Int) < (qa.length : Int) := by omega
     obtain ⟨wa, wc, h7⟩ := own_noteOpen (HU.out.third)
     have H7 := Lib.hid (plays_open h7)
     obtain ⟨Wn, hWn⟩ : ∃ Wn, Wb.length = Wn := ⟨_, rfl⟩
     rw [hWn] at H7
     have HWn := Lib.hid hWn
     have yS1 := (own_cellM H7.out (P := sb) (vs := [ptrV rc, .slice wa Wn wc]) (i := 1) (by simp) rfl).1
     have R3 : Hid (Calls Tryz.prog 21 #[ptrV bb, .slice wa Wn wc] wr fun e V2 => e = .returned (.bool true) ∧ Own W.heap.size W [BufR bb tb Wb, TabR tb most 2 L, DocR r most L, CellsR sb [ptrV rc, .slice wa Wn wc], SlR 6 wa Wn wc (wrsV Wb), DocR rc most A] V2) := Lib.hid (by
      have := own_written (la := wa) (lk := wc) (W := Wb) (by omega) H7.out (fun U hU => by rw [HWn.out]; exact own_rdM hU (by simp))
      rwa [HWn.out] at this)
     clear h7 hWn
     go_wp2_with (first
      | (go_at_call 21; refine R3.out.mono ?_; rintro e Vc ⟨rfl, h7⟩; have J3 := Lib.hid h7; clear h7)
      | (go_at_call 22; refine (own_sameD J3.out.drop).mono ?_; rintro e Vb ⟨rfl, hb⟩; have J4 := Lib.hid (J3.out.later hb); clear hb)
      | (go_at_call 12; refine (HA.out _).mono ?_; rintro e V9 ⟨rfl, hb⟩; have H9 := Lib.hid ((J4.out.low).trans (hb.mono (J4.out.low).size)); clear hb))
     go_ret
     exact ⟨rfl, HEnd.out _ H9.out⟩
end Bf
end Go.Proofs.YtecnijnmgdfdhaaGreat
