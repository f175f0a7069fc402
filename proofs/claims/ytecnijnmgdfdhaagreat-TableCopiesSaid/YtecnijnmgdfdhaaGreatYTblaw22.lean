/- Joined: Tblaw22. -/
import Derived.Test.YtecnijnmgdfdhaaGreatYLawC
/- The laws of package table: TableCopies. -/
namespace Go.Proofs.YtecnijnmgdfdhaaGreat
namespace Tb
open Go.RowKit Tr
open Ky (less)
def Yes (w : World) (e : Ending) (V : World) : Prop := e = .returned (.bool true) ∧ Below w.heap.size w V
def runF (most : Nat) (L : List Pr) (l : List OpT) : List Pr := l.foldl (fun L x => stepT most x L) L
theorem runF_succ {most : Nat} {L : List Pr} {l : List OpT} {j : Nat} {x : OpT} (h : l[j]? = some x) : runF most L (l.take (j + 1)) = stepT most x (runF most L (l.take j)) := by
  unfold runF
  rw [List.take_add_one, h, List.foldl_append]
  rfl
set_option maxHeartbeats 16000000 in
set_option maxRecDepth 100000 in
theorem tableCopies_walk (m0 : Int) (a : Option Addr) (c : Nat) (l : List OpT) (q : Option Addr) (d : Nat) (m : List OpT) (w : World) (hr : Rd w 6 a l.length c (opsV l)) (hok : ∀ x ∈ l, OkOp x) (hq : Rd w 6 q m.length d (opsV m)) (hom : ∀ x ∈ m, OkOp x) :
    Calls Tryz.prog 5 #[.int .i64 m0, .slice a l.length c, .slice q m.length d] w (Yes w) := by
  have hcap := hr.cap
  have hle := hr.le
  have hcap2 := hq.cap
  have hle2 := hq.le
  unfold maxLen at hcap hcap2
  have HA := Lib.hid (fun W => awakeT_any W)
  have HRt := Lib.hid (fun W => right_any m0 W)
  have HF := Lib.hid (fun V (hb : Below w.heap.size w V) => few_any a c l (by omega) hok V (hr.later hb))
  have HF2 := Lib.hid (fun V (hb : Below w.heap.size w V) => few_any q d m (by omega) hom V (hq.later hb))
  have HR := Lib.hid (And.intro hr hok)
  have HQ := Lib.hid (And.intro hq hom)
  clear hr hok hq hom
  by_cases hm : okMost m0 = true
  case neg =>
    have hm2 : okMost m0 = false := by simpa using hm
    rw [hm2] at HRt
    clear hm hm2
    go_enter Tryz.func5, Tryz.ntmps5
    go_wp2_with (first | (go_at_call 10; refine (HRt.out _).mono ?_; rintro e V1 ⟨rfl, rfl⟩) | (go_at_call 32; refine (HA.out _).mono ?_; rintro e V9 ⟨rfl, hb⟩; have H9 := Lib.hid ((Below.refl w.heap.size w).trans (hb.mono (Below.refl w.heap.size w).size)); clear hb))
    go_ret
    exact ⟨rfl, H9.out⟩
  rw [hm] at HRt
  have hm3 : 1 ≤ m0 ∧ m0 ≤ 1024 := by unfold okMost at hm; simpa using hm
  obtain ⟨most, rfl⟩ : ∃ n : Nat, m0 = n := ⟨m0.toNat, by omega⟩
  have hmm : 1 ≤ most ∧ most ≤ 1024 := by omega
  clear hm hm3
  have tok1 : True := trivial
  by_cases hf : fewT l
  case neg =>
    have hff : decide (fewT l) = false := by simpa using hf
    rw [hff] at HF
    clear hf hff hmm
    go_enter Tryz.func5, Tryz.ntmps5
    go_wp2_with (first | (go_at_call 10; refine (HRt.out _).mono ?_; rintro e V1 ⟨rfl, rfl⟩) | (go_at_call 31; have _t := tok1; refine (HF.out _ (Below.refl _ _)).mono ?_; rintro e V2 ⟨rfl, rfl⟩; clear tok1 _t) | (go_at_call 32; refine (HA.out _).mono ?_; rintro e V9 ⟨rfl, hb⟩; have H9 := Lib.hid ((Below.refl w.heap.size w).trans (hb.mono (Below.refl w.heap.size w).size)); clear hb))
    go_ret
    exact ⟨rfl, H9.out⟩
  have hff : decide (fewT l) = true := by simpa using hf
  rw [hff] at HF
  clear hf hff
  by_cases hf2 : fewT m
  case neg =>
    have hff : decide (fewT m) = false := by simpa using hf2
    rw [hff] at HF2
    clear hf2 hff hmm
    go_enter Tryz.func5, Tryz.ntmps5
    go_wp2_with (first | (go_at_call 10; refine (HRt.out _).mono ?_; rintro e V1 ⟨rfl, rfl⟩) | (go_at_call 31; have _t := tok1; refine (HF.out _ (Below.refl _ _)).mono ?_; rintro e V2 ⟨rfl, rfl⟩; clear tok1 _t) | (go_at_call 31; refine (HF2.out _ (Below.refl _ _)).mono ?_; rintro e V2 ⟨rfl, rfl⟩) | (go_at_call 32; refine (HA.out _).mono ?_; rintro e V9 ⟨rfl, hb⟩; have H9 := Lib.hid ((Below.refl w.heap.size w).trans (hb.mono (Below.refl w.heap.size w).size)); clear hb))
    go_ret
    exact ⟨rfl, H9.out⟩
  have hff : decide (fewT m) = true := by simpa using hf2
  rw [hff] at HF2
  clear hf2 hff
  have HM := Lib.hid (own_made most hmm a c l HR.out.1 HR.out.2 (Own.nil w))
  obtain ⟨L, hL⟩ : ∃ L, runT most l = L := ⟨_, rfl⟩
  rw [hL] at HM
  have HCp := Lib.hid (fun tb X V (h : Own w.heap.size w (TabR tb most 2 L :: X) V) => own_tabCopy h)
  have HDc := Lib.hid (fun tb r X V (h : Own w.heap.size w (DocR r most L :: TabR tb most 2 L :: X) V) => own_docCopy (by have := (own_tabOk h.swap).len; have := (own_tabOk h.swap).hi; omega) h)
  have P1 : Hid (∀ {tc tb r} V, Own w.heap.size w [TabR tc most 2 L, TabR tb most 2 L, DocR r most L] V → Calls Tryz.prog 22 #[ptrV tc, ptrV r] V fun e V2 => e = .returned (.bool true) ∧ Below V.heap.size V V2) := Lib.hid (fun V h => by
    have ok := own_tabOk h
    have := own_sameG (h.perm (List.Perm.cons _ (List.Perm.swap _ _ _))) ok.ok (by have := ok.len; have := ok.hi; omega)
    simpa using this)
  have P2 : Hid (∀ {tc tb r} V, Own w.heap.size w [TabR tc most 2 L, TabR tb most 2 L, DocR r most L] V → Calls Tryz.prog 34 #[ptrV tb, ptrV tc] V fun e V2 => e = .returned (.bool true) ∧ Below V.heap.size V V2) := Lib.hid (fun V h => by
    have := own_tabSame h.swap
    simpa using this)
  have P3 : Hid (∀ {tc tb r} V, Own w.heap.size w [TabR tc most 2 L, TabR tb most 2 L, DocR r most L] V → Calls Tryz.prog 34 #[ptrV tc, ptrV tb] V fun e V2 => e = .returned (.bool true) ∧ Below V.heap.size V V2) := Lib.hid (fun V h => by
    have := own_tabSame h
    simpa using this)
  have P4 : Hid (∀ {tc tb r} V, Own w.heap.size w [TabR tc most 2 L, TabR tb most 2 L, DocR r most L] V → Calls Tryz.prog 30 #[ptrV tc] V fun e V2 => e = .returned (.bool true) ∧ Below V.heap.size V V2) := Lib.hid (fun V h => own_tabCheck h)
  have P5 : Hid (∀ {tc tb r} V, Own w.heap.size w [TabR tc most 2 L, TabR tb most 2 L, DocR r most L] V → Calls Tryz.prog 35 #[ptrV tc] V fun e V2 => e = .returned (.int .i64 most) ∧ Below V.heap.size V V2) := Lib.hid (fun V h => (own_tabMost h).mono (fun e V2 ⟨e1, e2⟩ => ⟨e1, by subst e2; exact Below.refl _ _⟩))
  have k1 : decide ((most : Int) = (most : Int)) = true := by simp
  clear hmm hL
  have tok2 : True := trivial
  go_enter Tryz.func5, Tryz.ntmps5
  go_wp2_with (first
    | (go_at_call 10; refine (HRt.out _).mono ?_; rintro e V1 ⟨rfl, rfl⟩)
    | (go_at_call 31; have _t := tok1; refine (HF.out _ (Below.refl _ _)).mono ?_; rintro e V2 ⟨rfl, rfl⟩; clear tok1 _t)
    | (go_at_call 31; refine (HF2.out _ (Below.refl _ _)).mono ?_; rintro e V2 ⟨rfl, rfl⟩)
    | (go_at_call 13; refine HM.out.mono ?_; rintro e V3 ⟨tb, r, rfl, hb3, h3⟩; have H3 := Lib.hid h3; clear h3 hb3)
    | (go_at_call 33; refine (HCp.out _ _ _ H3.out).mono ?_; rintro e V4 ⟨tc, rfl, h4⟩; have H4 := Lib.hid h4; clear h4)
    | (go_at_call 22; refine (P1.out _ H4.out).mono ?_; rintro e Vx ⟨rfl, hb⟩; have H5a := Lib.hid (H4.out.later hb); clear hb)
    | (go_at_call 34; have _t := tok2; refine (P2.out _ H5a.out).mono ?_; rintro e Vx ⟨rfl, hb⟩; have H6a := Lib.hid (H5a.out.later hb); clear hb tok2 _t)
    | (go_at_call 34; refine (P3.out _ H6a.out).mono ?_; rintro e Vx ⟨rfl, hb⟩; have H7a := Lib.hid (H6a.out.later hb); clear hb)
    | (go_at_call 30; refine (P4.out _ H7a.out).mono ?_; rintro e Vx ⟨rfl, hb⟩; have H8a := Lib.hid (H7a.out.later hb); clear hb)
    | (go_at_call 35; refine (P5.out _ H8a.out).mono ?_; rintro e Vx ⟨rfl, hb⟩; have H9a := Lib.hid (H8a.out.later hb); clear hb)
    | (go_at_call 36; refine (HDc.out _ _ _ _ (H9a.out.third.perm (List.Perm.cons _ (List.Perm.swap _ _ _)))).mono ?_; rintro e V5 ⟨s, rfl, h5⟩; have H5 := Lib.hid h5; clear h5))
  have HD0 : Hid (Own w.heap.size w [TabR tc most 2 (runF most L (m.take 0)), DocR s most (runF most L (m.take 0)), TabR tb most 2 L, DocR r most L] V5) := Lib.hid (H5.out.perm (by
    refine (List.perm_middle (l₁ := [DocR s most L, DocR r most L, TabR tb most 2 L])).trans (List.Perm.cons _ (List.Perm.cons _ (List.Perm.swap _ _ _)))))
  go_loopw [11] (fun i wr => ∃ (j : Nat), j ≤ m.length ∧ i = .int .i64 j ∧ Hid (Own w.heap.size w [TabR tc most 2 (runF most L (m.take j)), DocR s most (runF most L (m.take j)), TabR tb most 2 L, DocR r most L] wr)) (fun i _ => m.length - (intOf i).toNat)
  case atStart => exact ⟨0, by omega, rfl, HD0⟩
  case round =>
    obtain ⟨j, hj, rfl, HJ⟩ := hrel
    have k0 : (0 : Int) ≤ (j : Int) := by omega
    by_cases hlt : j < m.length
    · obtain ⟨⟨ask, k, r0, r1, r2, r3⟩, hx⟩ : ∃ x, m[j]? = some x := ⟨_, List.getElem?_eq_getElem hlt⟩
      obtain ⟨lb, lo, rfl, z0, z1, z2, z3, z4, z5⟩ := op_at HQ.out.1 hx
      have y0 := old_cell z0 HJ.out.low
      have y1 := old_cell z1 HJ.out.low
      have y2 := old_cell z2 HJ.out.low
      have y3 := old_cell z3 HJ.out.low
      have y4 := old_cell z4 HJ.out.low
      have y5 := old_cell z5 HJ.out.low
      have k1 : (j : Int) < (m.length : Int) := by omega
      have HD := Lib.hid (own_does (ask, k, r0, r1, r2, r3) (HQ.out.2 _ (List.mem_of_getElem? hx)) HJ.out)
      rw [← runF_succ hx] at HD
      clear hx z0 z1 z2 z3 z4 z5
      go_wp2_with (go_at_call 37; refine HD.out.mono ?_; rintro e V6 ⟨rfl, h6⟩; have H6 := Lib.hid h6; clear h6)
      go_roundw
      case rel => exact ⟨j + 1, by omega, by go_num, H6⟩
      case measure => simp [intOf]; omega
    · obtain rfl : j = m.length := by omega
      have k1 : ¬ (m.length : Int) < (m.length : Int) := by omega
      rw [List.take_length] at HJ
      obtain ⟨M, hM⟩ : ∃ M, runF most L m = M := ⟨_, rfl⟩
      rw [hM] at HJ
      obtain ⟨b1, hb1⟩ : ∃ b, decide (L = M) = b := ⟨_, rfl⟩
      obtain ⟨b2, hb2⟩ : ∃ b, decide (M = L) = b := ⟨_, rfl⟩
      have e12 : b2 = b1 := by rw [← hb1, ← hb2]; exact decide_eq_decide.2 ⟨fun h => h.symm, fun h => h.symm⟩
      rw [e12] at hb2
      have Q1 : Hid (∀ V, Own w.heap.size w [TabR tc most 2 M, DocR s most M, TabR tb most 2 L, DocR r most L] V → Calls Tryz.prog 22 #[ptrV tb, ptrV r] V fun e V2 => e = .returned (.bool true) ∧ Below V.heap.size V V2) := Lib.hid (fun V h => by
        have h1 := h.third.perm (List.perm_middle (l₁ := [TabR tb most 2 L, TabR tc most 2 M, DocR s most M])) |>.swap
        have ok := own_tabOk h1
        have := own_sameG h1 ok.ok (by have := ok.len; have := ok.hi; omega)
        simpa using this)
      have Q2 : Hid (∀ V, Own w.heap.size w [TabR tc most 2 M, DocR s most M, TabR tb most 2 L, DocR r most L] V → Calls Tryz.prog 22 #[ptrV tc, ptrV s] V fun e V2 => e = .returned (.bool true) ∧ Below V.heap.size V V2) := Lib.hid (fun V h => by
        have ok := own_tabOk h
        have := own_sameG h ok.ok (by have := ok.len; have := ok.hi; omega)
        simpa using this)
      have Q3 : Hid (∀ V, Own w.heap.size w [TabR tc most 2 M, DocR s most M, TabR tb most 2 L, DocR r most L] V → Calls Tryz.prog 30 #[ptrV tc] V fun e V2 => e = .returned (.bool true) ∧ Below V.heap.size V V2) := Lib.hid (fun V h => own_tabCheck h)
      have Q4 : Hid (∀ V, Own w.heap.size w [TabR tc most 2 M, DocR s most M, TabR tb most 2 L, DocR r most L] V → Calls Tryz.prog 34 #[ptrV tb, ptrV tc] V fun e V2 => e = .returned (.bool b1) ∧ Below V.heap.size V V2) := Lib.hid (fun V h => by
        have := own_tabSame h.third
        rwa [hb1] at this)
      have Q5 : Hid (∀ V, Own w.heap.size w [TabR tc most 2 M, DocR s most M, TabR tb most 2 L, DocR r most L] V → Calls Tryz.prog 34 #[ptrV tc, ptrV tb] V fun e V2 => e = .returned (.bool b1) ∧ Below V.heap.size V V2) := Lib.hid (fun V h => by
        have := own_tabSame h.third.swap
        rwa [hb2] at this)
      have Q6 : Hid (∀ V, Own w.heap.size w [TabR tc most 2 M, DocR s most M, TabR tb most 2 L, DocR r most L] V → Calls Tryz.prog 22 #[ptrV tb, ptrV s] V fun e V2 => e = .returned (.bool b1) ∧ Below V.heap.size V V2) := Lib.hid (fun V h => by
        have ok := own_tabOk h
        have := own_sameG (h.third.perm (List.Perm.cons _ (List.Perm.swap _ _ _))) ok.ok (by have := ok.len; have := ok.hi; omega)
        rwa [hb1] at this)
      have kb : (b1 == b1) = true := by simp
      have kd : decide (b1 = b1) = true := by simp
      clear hM hb1 hb2 e12
      have tk1 : True := trivial
      have tk2 : True := trivial
      have tk3 : True := trivial
      have tk4 : True := trivial
      go_wp2_with (first
        | (go_at_call 22; have _t := tk1; refine (Q1.out _ HJ.out).mono ?_; rintro e Vx ⟨rfl, hb⟩; have J1 := Lib.hid (HJ.out.later hb); clear hb tk1 _t)
        | (go_at_call 22; have _t := tk2; refine (Q2.out _ J1.out).mono ?_; rintro e Vx ⟨rfl, hb⟩; have J2 := Lib.hid (J1.out.later hb); clear hb tk2 _t)
        | (go_at_call 30; refine (Q3.out _ J2.out).mono ?_; rintro e Vx ⟨rfl, hb⟩; have J3 := Lib.hid (J2.out.later hb); clear hb)
        | (go_at_call 34; have _t := tk3; refine (Q4.out _ J3.out).mono ?_; rintro e Vx ⟨rfl, hb⟩; have J4 := Lib.hid (J3.out.later hb); clear hb tk3 _t)
        | (go_at_call 22; have _t := tk4; refine (Q6.out _ J4.out).mono ?_; rintro e Vx ⟨rfl, hb⟩; have J5 := Lib.hid (J4.out.later hb); clear hb tk4 _t)
        | (go_at_call 34; refine (Q5.out _ J5.out).mono ?_; rintro e Vx ⟨rfl, hb⟩; have J6 := Lib.hid (J5.out.later hb); clear hb)
        | (go_at_call 22; refine (Q6.out _ J6.out).mono ?_; rintro e Vx ⟨rfl, hb⟩; have J7 := Lib.hid (J6.out.later hb); clear hb)
        | (go_at_call 32; refine (HA.out _).mono ?_; rintro e V9 ⟨rfl, hb⟩; have H9 := Lib.hid ((J7.out.low).trans (hb.mono (J7.out.low).size)); clear hb))
      go_ret
      exact ⟨rfl, H9.out⟩
end Tb
end Go.Proofs.YtecnijnmgdfdhaaGreat
