/- The laws of package field: FieldReads. -/
import Derived.Test.YtapjdcofnigjhaaField17
import Derived.Deep.Cut
namespace Go.Proofs.Ytapjdcofnigjhaa
open Go.RowKit
theorem num_kept {w w2 : World} {g : Nat} (x y z : Value) (t : TypeId) (hg : g < w.heap.size) (hf : Fr (atF g) (w.alloc (.cells #[x, y, z] t)) w2) :
    w2.cell? ⟨w.heap.size, 0, none⟩ = some x ∧ w2.cell? ⟨w.heap.size, 1, none⟩ = some y ∧ w2.cell? ⟨w.heap.size, 2, none⟩ = some z :=
  ⟨cell_fr hf (by simp) (fun e => by have := e.1; omega), cell_fr hf (by simp) (fun e => by have := e.1; omega), cell_fr hf (by simp) (fun e => by have := e.1; omega)⟩
theorem left_Z (g : Nat) (a : Option Addr) (c : Nat) (B : List UInt8) (at_ : Nat) (z : Int) (hz : z = (at_ : Int)) (hl : B.length ≤ 1000000) (w : World) (h : Rdr w g a c B at_) :
    Calls Try.prog 36 #[.pointer (some ⟨g, 0, none⟩)] w fun e w' => e = .returned (.int .i64 ((B.length : Int) - z)) ∧ Below w.heap.size w w' ∧ Rdr w' g a c B at_ := by
  subst hz
  exact (left_any g a c B at_ w h hl).mono fun e w' ⟨e1, n, e2⟩ => ⟨e1, e2 ▸ drewN_below w n, e2 ▸ h.later (drewN_below w n)⟩
set_option maxRecDepth 100000 in
set_option maxHeartbeats 8000000 in
theorem fieldReads_walk (a1 : Option Addr) (c1 : Nat) (B : List UInt8) (a2 : Option Addr) (c2 : Nat) (L : List FOp) (w : World) (h1 : RdB w a1 c1 B) (h2 : Rd w 3 a2 L.length c2 (fopsV L)) (hw2 : ∀ x ∈ L, OkOp x) :
    Calls Try.prog 8 #[.slice a1 B.length c1, .slice a2 L.length c2] w (FYes w) := by
  have hBm : (B.length : Int) ≤ 9223372036854775807 := by have := h1.le; unfold maxLen at this; omega
  have hLm : (L.length : Int) ≤ 9223372036854775807 := by have := h2.le; have := h2.cap; unfold maxLen at this; omega
  by_cases hB : 100 < B.length
  · have hB' : (100 : Int) < (B.length : Int) := by omega
    clear h1 h2 hw2 hB
    go_enter Try.func8, Try.ntmps8
    go_wp2_with (go_at_call 23; refine (awake02 _).mono ?_; rintro e w4 ⟨rfl, hb⟩; have H4 := Lib.hid hb; clear hb)
    go_ret
    exact ⟨rfl, H4.out⟩
  have hB' : (B.length : Int) ≤ 100 := by omega
  by_cases hL : 40 < L.length
  · have hL' : (40 : Int) < (L.length : Int) := by omega
    clear h1 h2 hw2 hB hL
    go_enter Try.func8, Try.ntmps8
    go_wp2_with (go_at_call 23; refine (awake02 _).mono ?_; rintro e w4 ⟨rfl, hb⟩; have H4 := Lib.hid hb; clear hb)
    go_ret
    exact ⟨rfl, H4.out⟩
  have hL' : (L.length : Int) ≤ 40 := by omega
  have hbl : B.length ≤ 1000000 := by omega
  have HB := Lib.hid h1
  have HD := Lib.hid h2
  have HW := Lib.hid hw2
  have hcap := h1.le
  clear h1 h2 hw2 hB hL hBm hLm
  go_enter Try.func8, Try.ntmps8
  go_wp2_with (go_at_call 31; refine (read_any a1 c1 B hbl _ HB.out).mono ?_; rintro e w1 ⟨g, a3, c3, rfl, hr, hb, hg⟩; have H1 := Lib.hid (And.intro hb hr); have HG := Lib.hid hg; clear hr hb hg)
  go_loopw [6, 7] (fun p i wr => ∃ (k at_ : Nat), k ≤ L.length ∧ at_ ≤ B.length ∧ i = .int .i64 k ∧ p = .int .i64 (at_ : Int) ∧ Hid (Below w.heap.size w wr ∧ Rdr wr g a3 c3 B at_)) (fun _ i _ => L.length - (intOf i).toNat)
  case atStart => exact ⟨0, 0, by omega, by omega, rfl, rfl, H1⟩
  case round =>
    clear H1
    obtain ⟨k, at_, hk, hat, rfl, rfl, HS⟩ := hrel
    obtain ⟨wo, rfl⟩ : ∃ wo : World, wo = wr := ⟨_, rfl⟩
    by_cases hlt : k < L.length
    · obtain ⟨⟨ki, n, tt⟩, hx⟩ : ∃ x, L[k]? = some x := ⟨_, List.getElem?_eq_getElem hlt⟩
      have hok := HW.out _ (List.mem_of_getElem? hx)
      have HC : Hid (∀ W : World, Below w.heap.size w W → ∀ b o, a2 = some ⟨b, o, none⟩ → W.cell? ⟨b, o + k * 3, none⟩ = some (.int .i64 ki) ∧ W.cell? ⟨b, o + k * 3 + 1, none⟩ = some (.int .i64 n)) := Lib.hid (fun W hb b o e => by
        obtain ⟨b', o', e', h⟩ := fop_at (HD.out.later hb) hx
        rw [e] at e'
        cases e'
        exact ⟨h.1, h.2.1⟩)
      obtain ⟨b, o, rfl, x0, x1, x2⟩ := fop_at (HD.out.later HS.out.1) hx
      have hnin := hok.1
      have hn1 : -9223372036854775808 ≤ n := hnin.1
      have hn2 : n ≤ 9223372036854775807 := hnin.2
      simp only at x0 x1
      have k0 : (0 : Int) ≤ (k : Int) := by omega
      have k1 : (k : Int) < (L.length : Int) := by omega
      have at0 : (0 : Int) ≤ (at_ : Int) := by omega
      have at1 : (at_ : Int) ≤ (B.length : Int) := by omega
      obtain ⟨sa, hsl, hsr⟩ := from_ex (P := Try.prog) 25 Try.underlying25 1 Try.sizeOf5 (show Rd w 1 a1 B.length c1 (bytesV B) from HB.out) .i64 at_ hat
      have HSR : Hid (∀ W : World, Below w.heap.size w W → RdB W sa (c1 - at_) (B.drop at_)) := Lib.hid (fun W hb => by
        have h := hsr W (HB.out.later hb)
        rw [Nat.mul_one, bytesV_drop] at h
        unfold RdB
        rw [List.length_drop]
        exact h)
      have HRR0 : Hid (∀ W : World, Below w.heap.size w W → Calls Try.prog 32 #[.slice sa (B.length - at_) (c1 - at_)] W (GivesN W (Fd.parse 0 (B.drop at_)))) := Lib.hid (fun W hb => by
        have h := refRead_any sa (c1 - at_) (B.drop at_) (by rw [List.length_drop]; omega) W (HSR.out W hb)
        rwa [List.length_drop] at h)
      obtain ⟨P, hP⟩ : ∃ P, Fd.parse 0 (B.drop at_) = P := ⟨_, rfl⟩
      have HP := Lib.hid hP
      rw [hP] at HRR0
      have HLO : Hid (∀ W W' : World, Below w.heap.size w W → Fr (atF g) W W' → Below w.heap.size w W') := Lib.hid (fun W W' h hf => h.trans (hf.below h.size (fun b o e => e.1 ▸ HG.out)))
      clear hx hok hnin hsr hP x2
      by_cases hk0 : ki = 0
      · subst hk0
        cases P with
        | none =>
          as_aux_lemma =>
            have HRR : Hid (∀ W : World, Below w.heap.size w W → Calls Try.prog 32 #[.slice sa (B.length - at_) (c1 - at_)] W fun e w' => e = .returned (numV (0) (0) (0)) ∧ Below W.heap.size W w') := Lib.hid (fun W hb => HRR0.out W hb)
            have HRD : Hid (∀ W : World, Rdr W g a3 c3 B at_ → Calls Try.prog 33 #[.pointer (some ⟨g, 0, none⟩)] W (OuterR W g a3 c3 B (.int .i64 0) (11) (at_))) := Lib.hid (fun W h => rUint_any g a3 c3 B at_ hbl W h none HP.out)
            have HLF : Hid (∀ W : World, Rdr W g a3 c3 B (at_) → Calls Try.prog 36 #[.pointer (some ⟨g, 0, none⟩)] W fun e w' => e = .returned (.int .i64 ((B.length : Int) - ((at_ : Int)))) ∧ Below W.heap.size W w' ∧ Rdr w' g a3 c3 B (at_)) := Lib.hid (fun W hr => left_Z g a3 c3 B (at_) ((at_ : Int)) (rfl) hbl W hr)
            have tok1 : True := trivial
            have tok2 : True := trivial
            clear HRR0
            go_wp2_with (first
              | (go_at_call 32; refine (HRR.out _ HS.out.1).mono ?_; rintro e w1 ⟨rfl, hb⟩; have H1 := Lib.hid (And.intro (HS.out.1.trans (hb.mono HS.out.1.size)) (HS.out.2.later hb)); clear hb x0 x1; obtain ⟨x0, x1⟩ := HC.out w1 H1.out.1 b o rfl; have sz : b < w1.heap.size := block_of_cell x0)
              | (go_at_call 33; refine (HRD.out _ (H1.out.2.later (al1' w1 _))).mono ?_; rintro e w2 ⟨rfl, hr, hf⟩; have HQ := Lib.hid (And.intro (HLO.out _ _ (H1.out.1.trans ((al1' w1 _).mono H1.out.1.size)) hf) hr); obtain ⟨z0, z1, z2⟩ := num_kept _ _ _ _ (show g < w1.heap.size from block_of_cell H1.out.2.i) hf; clear hr hf x0 x1 sz; obtain ⟨x0, x1⟩ := HC.out w2 HQ.out.1 b o rfl)
              | (have _t := tok1; go_at_call 36; refine (HLF.out _ HQ.out.2).mono ?_; rintro e w4 ⟨rfl, hb, hr⟩; have HQ4 := Lib.hid (And.intro (HQ.out.1.trans (hb.mono HQ.out.1.size)) hr); (replace z0 := old_cell z0 hb); (replace z1 := old_cell z1 hb); (replace z2 := old_cell z2 hb); (replace x0 := old_cell x0 hb); (replace x1 := old_cell x1 hb); clear hb hr tok1)
              | (have _t := tok2; go_at_call 36; refine (HLF.out _ HQ4.out.2).mono ?_; rintro e w5 ⟨rfl, hb, hr⟩; have HQ5 := Lib.hid (And.intro (HQ4.out.1.trans (hb.mono HQ4.out.1.size)) hr); clear hb hr tok2))
            go_roundw
            case rel => exact ⟨k + 1, at_, by omega, by omega, by go_num, rfl, HQ4⟩
            case measure => simp [intOf]; omega
        | some q =>
          obtain ⟨m, kk⟩ := q
          obtain ⟨hmm, _, hkk1, hkk2, hkk3⟩ := Fd.parse_at HP.out
          rw [List.length_drop] at hkk2
          obtain ⟨h, hh⟩ : ∃ h, h = m / 2 := ⟨_, rfl⟩
          obtain ⟨q, hq⟩ : ∃ q, q = m % 2 := ⟨_, rfl⟩
          have hmq : 2 * h + q = m := by omega
          have hq1 : q ≤ 1 := by omega
          have HMQ := Lib.hid hmq
          have HHQ := Lib.hid (And.intro hh hq)
          have ks1 : (1 : Int) ≤ (kk : Int) := by omega
          have ks2 : (kk : Int) ≤ 10 := by omega
          have ks3 : (at_ : Int) + (kk : Int) ≤ (B.length : Int) := by omega
          have ks4 : ((kk : Int) == 0) = false := by simp; omega
          have hq2 : (q : Int) ≤ 1 := by omega
          by_cases hm : m < 9223372036854775808
          · have HM := Lib.hid hm
            as_aux_lemma =>
              have hb1 : decide ((4611686018427387904 : Int) ≤ (h : Int)) = false := decide_eq_false (by omega)
              have hb2 : 2 * (h : Int) + (q : Int) ≤ 9223372036854775807 := by omega
              have hb3 : 2 * (h : Int) ≤ 9223372036854775807 := by omega
              have HRR : Hid (∀ W : World, Below w.heap.size w W → Calls Try.prog 32 #[.slice sa (B.length - at_) (c1 - at_)] W fun e w' => e = .returned (numV ((h : Int)) ((q : Int)) ((kk : Int))) ∧ Below W.heap.size W w') := Lib.hid (fun W hb => by
                  have h2 := HRR0.out W hb
                  unfold GivesN at h2
                  have e1 : (Fd.refN (some (m, kk))).1 = h := HHQ.out.1.symm
                  have e2 : (Fd.refN (some (m, kk))).2.1 = q := HHQ.out.2.symm
                  rw [e1, e2] at h2
                  exact h2)
              have HRD : Hid (∀ W : World, Rdr W g a3 c3 B at_ → Calls Try.prog 33 #[.pointer (some ⟨g, 0, none⟩)] W (OuterR W g a3 c3 B (.int .i64 (2 * (h : Int) + (q : Int))) (0) (at_ + kk))) := Lib.hid (fun W hr => by
                  have h2 := rUint_any g a3 c3 B at_ hbl W hr _ HP.out
                  have e1 : uV (some (m, kk)) = 2 * (h : Int) + (q : Int) := (if_pos HM.out).trans (by have := HMQ.out; omega)
                  have e2 : uE (some (m, kk)) = 0 := if_pos HM.out
                  rw [e1, e2] at h2
                  exact h2)
              have HLF : Hid (∀ W : World, Rdr W g a3 c3 B (at_ + kk) → Calls Try.prog 36 #[.pointer (some ⟨g, 0, none⟩)] W fun e w' => e = .returned (.int .i64 ((B.length : Int) - ((at_ : Int) + (kk : Int)))) ∧ Below W.heap.size W w' ∧ Rdr w' g a3 c3 B (at_ + kk)) := Lib.hid (fun W hr => left_Z g a3 c3 B (at_ + kk) ((at_ : Int) + (kk : Int)) (by push_cast; rfl) hbl W hr)
              have tok1 : True := trivial
              have tok2 : True := trivial
              clear HRR0 hmq hh hq hmm hkk1 hkk2 hkk3
              clear hm
              go_wp2_with (first
                | (go_at_call 32; refine (HRR.out _ HS.out.1).mono ?_; rintro e w1 ⟨rfl, hb⟩; have H1 := Lib.hid (And.intro (HS.out.1.trans (hb.mono HS.out.1.size)) (HS.out.2.later hb)); clear hb x0 x1; obtain ⟨x0, x1⟩ := HC.out w1 H1.out.1 b o rfl; have sz : b < w1.heap.size := block_of_cell x0)
                | (go_at_call 33; refine (HRD.out _ (H1.out.2.later (al1' w1 _))).mono ?_; rintro e w2 ⟨rfl, hr, hf⟩; have HQ := Lib.hid (And.intro (HLO.out _ _ (H1.out.1.trans ((al1' w1 _).mono H1.out.1.size)) hf) hr); obtain ⟨z0, z1, z2⟩ := num_kept _ _ _ _ (show g < w1.heap.size from block_of_cell H1.out.2.i) hf; clear hr hf x0 x1 sz; obtain ⟨x0, x1⟩ := HC.out w2 HQ.out.1 b o rfl)
                | (have _t := tok1; go_at_call 36; refine (HLF.out _ HQ.out.2).mono ?_; rintro e w4 ⟨rfl, hb, hr⟩; have HQ4 := Lib.hid (And.intro (HQ.out.1.trans (hb.mono HQ.out.1.size)) hr); (replace z0 := old_cell z0 hb); (replace z1 := old_cell z1 hb); (replace z2 := old_cell z2 hb); (replace x0 := old_cell x0 hb); (replace x1 := old_cell x1 hb); clear hb hr tok1)
                | (have _t := tok2; go_at_call 36; refine (HLF.out _ HQ4.out.2).mono ?_; rintro e w5 ⟨rfl, hb, hr⟩; have HQ5 := Lib.hid (And.intro (HQ4.out.1.trans (hb.mono HQ4.out.1.size)) hr); clear hb hr tok2))
              go_roundw
              case rel => exact ⟨k + 1, at_ + kk, by omega, by omega, by go_num, by refine congrArg _ ?_; have := HMQ.out; push_cast; omega, HQ5⟩
              case measure => simp [intOf]; omega
          · have HM := Lib.hid hm
            as_aux_lemma =>
              have hb1 : (4611686018427387904 : Int) ≤ (h : Int) := by omega
              have HRR : Hid (∀ W : World, Below w.heap.size w W → Calls Try.prog 32 #[.slice sa (B.length - at_) (c1 - at_)] W fun e w' => e = .returned (numV ((h : Int)) ((q : Int)) ((kk : Int))) ∧ Below W.heap.size W w') := Lib.hid (fun W hb => by
                  have h2 := HRR0.out W hb
                  unfold GivesN at h2
                  have e1 : (Fd.refN (some (m, kk))).1 = h := HHQ.out.1.symm
                  have e2 : (Fd.refN (some (m, kk))).2.1 = q := HHQ.out.2.symm
                  rw [e1, e2] at h2
                  exact h2)
              have HRD : Hid (∀ W : World, Rdr W g a3 c3 B at_ → Calls Try.prog 33 #[.pointer (some ⟨g, 0, none⟩)] W (OuterR W g a3 c3 B (.int .i64 0) (10) (at_))) := Lib.hid (fun W h => by
                  have h2 := rUint_any g a3 c3 B at_ hbl W h _ HP.out
                  have e1 : uV (some (m, kk)) = 0 := if_neg HM.out
                  have e2 : uE (some (m, kk)) = 10 := if_neg HM.out
                  rw [e1, e2] at h2
                  exact h2)
              have HLF : Hid (∀ W : World, Rdr W g a3 c3 B (at_) → Calls Try.prog 36 #[.pointer (some ⟨g, 0, none⟩)] W fun e w' => e = .returned (.int .i64 ((B.length : Int) - ((at_ : Int)))) ∧ Below W.heap.size W w' ∧ Rdr w' g a3 c3 B (at_)) := Lib.hid (fun W hr => left_Z g a3 c3 B (at_) ((at_ : Int)) (rfl) hbl W hr)
              have tok1 : True := trivial
              have tok2 : True := trivial
              clear HRR0 hmq hh hq hmm hkk1 hkk2 hkk3
              clear hm
              go_wp2_with (first
                | (go_at_call 32; refine (HRR.out _ HS.out.1).mono ?_; rintro e w1 ⟨rfl, hb⟩; have H1 := Lib.hid (And.intro (HS.out.1.trans (hb.mono HS.out.1.size)) (HS.out.2.later hb)); clear hb x0 x1; obtain ⟨x0, x1⟩ := HC.out w1 H1.out.1 b o rfl; have sz : b < w1.heap.size := block_of_cell x0)
                | (go_at_call 33; refine (HRD.out _ (H1.out.2.later (al1' w1 _))).mono ?_; rintro e w2 ⟨rfl, hr, hf⟩; have HQ := Lib.hid (And.intro (HLO.out _ _ (H1.out.1.trans ((al1' w1 _).mono H1.out.1.size)) hf) hr); obtain ⟨z0, z1, z2⟩ := num_kept _ _ _ _ (show g < w1.heap.size from block_of_cell H1.out.2.i) hf; clear hr hf x0 x1 sz; obtain ⟨x0, x1⟩ := HC.out w2 HQ.out.1 b o rfl)
                | (have _t := tok1; go_at_call 36; refine (HLF.out _ HQ.out.2).mono ?_; rintro e w4 ⟨rfl, hb, hr⟩; have HQ4 := Lib.hid (And.intro (HQ.out.1.trans (hb.mono HQ.out.1.size)) hr); (replace z0 := old_cell z0 hb); (replace z1 := old_cell z1 hb); (replace z2 := old_cell z2 hb); (replace x0 := old_cell x0 hb); (replace x1 := old_cell x1 hb); clear hb hr tok1)
                | (have _t := tok2; go_at_call 36; refine (HLF.out _ HQ4.out.2).mono ?_; rintro e w5 ⟨rfl, hb, hr⟩; have HQ5 := Lib.hid (And.intro (HQ4.out.1.trans (hb.mono HQ4.out.1.size)) hr); clear hb hr tok2))
              go_roundw
              case rel => exact ⟨k + 1, at_, by omega, by omega, by go_num, rfl, HQ4⟩
              case measure => simp [intOf]; omega
      · by_cases hk1 : ki = 1
        · subst hk1
          cases P with
          | none =>
            as_aux_lemma =>
              have HRR : Hid (∀ W : World, Below w.heap.size w W → Calls Try.prog 32 #[.slice sa (B.length - at_) (c1 - at_)] W fun e w' => e = .returned (numV (0) (0) (0)) ∧ Below W.heap.size W w') := Lib.hid (fun W hb => HRR0.out W hb)
              have HRD : Hid (∀ W : World, Rdr W g a3 c3 B at_ → Calls Try.prog 34 #[.pointer (some ⟨g, 0, none⟩)] W (OuterR W g a3 c3 B (.int .i64 0) (11) (at_))) := Lib.hid (fun W h => rInt_any g a3 c3 B at_ hbl W h none HP.out)
              have HLF : Hid (∀ W : World, Rdr W g a3 c3 B (at_) → Calls Try.prog 36 #[.pointer (some ⟨g, 0, none⟩)] W fun e w' => e = .returned (.int .i64 ((B.length : Int) - ((at_ : Int)))) ∧ Below W.heap.size W w' ∧ Rdr w' g a3 c3 B (at_)) := Lib.hid (fun W hr => left_Z g a3 c3 B (at_) ((at_ : Int)) (rfl) hbl W hr)
              have tok1 : True := trivial
              have tok2 : True := trivial
              clear HRR0
              go_wp2_with (first
                | (go_at_call 32; refine (HRR.out _ HS.out.1).mono ?_; rintro e w1 ⟨rfl, hb⟩; have H1 := Lib.hid (And.intro (HS.out.1.trans (hb.mono HS.out.1.size)) (HS.out.2.later hb)); clear hb x0 x1; obtain ⟨x0, x1⟩ := HC.out w1 H1.out.1 b o rfl; have sz : b < w1.heap.size := block_of_cell x0)
                | (go_at_call 34; refine (HRD.out _ (H1.out.2.later (al1' w1 _))).mono ?_; rintro e w2 ⟨rfl, hr, hf⟩; have HQ := Lib.hid (And.intro (HLO.out _ _ (H1.out.1.trans ((al1' w1 _).mono H1.out.1.size)) hf) hr); obtain ⟨z0, z1, z2⟩ := num_kept _ _ _ _ (show g < w1.heap.size from block_of_cell H1.out.2.i) hf; clear hr hf x0 x1 sz; obtain ⟨x0, x1⟩ := HC.out w2 HQ.out.1 b o rfl)
                | (have _t := tok1; go_at_call 36; refine (HLF.out _ HQ.out.2).mono ?_; rintro e w4 ⟨rfl, hb, hr⟩; have HQ4 := Lib.hid (And.intro (HQ.out.1.trans (hb.mono HQ.out.1.size)) hr); (replace z0 := old_cell z0 hb); (replace z1 := old_cell z1 hb); (replace z2 := old_cell z2 hb); (replace x0 := old_cell x0 hb); (replace x1 := old_cell x1 hb); clear hb hr tok1)
                | (have _t := tok2; go_at_call 36; refine (HLF.out _ HQ4.out.2).mono ?_; rintro e w5 ⟨rfl, hb, hr⟩; have HQ5 := Lib.hid (And.intro (HQ4.out.1.trans (hb.mono HQ4.out.1.size)) hr); clear hb hr tok2))
              go_roundw
              case rel => exact ⟨k + 1, at_, by omega, by omega, by go_num, rfl, HQ4⟩
              case measure => simp [intOf]; omega
          | some q =>
            obtain ⟨m, kk⟩ := q
            obtain ⟨hmm, _, hkk1, hkk2, hkk3⟩ := Fd.parse_at HP.out
            rw [List.length_drop] at hkk2
            obtain ⟨h, hh⟩ : ∃ h, h = m / 2 := ⟨_, rfl⟩
            obtain ⟨q, hq⟩ : ∃ q, q = m % 2 := ⟨_, rfl⟩
            have hmq : 2 * h + q = m := by omega
            have hq1 : q ≤ 1 := by omega
            have HMQ := Lib.hid hmq
            have HHQ := Lib.hid (And.intro hh hq)
            have ks1 : (1 : Int) ≤ (kk : Int) := by omega
            have ks2 : (kk : Int) ≤ 10 := by omega
            have ks3 : (at_ : Int) + (kk : Int) ≤ (B.length : Int) := by omega
            have ks4 : ((kk : Int) == 0) = false := by simp; omega
            have hq2 : (q : Int) ≤ 1 := by omega
            have hh2 : (h : Int) ≤ 9223372036854775807 := by omega
            by_cases hq0 : q = 0
            · as_aux_lemma =>
                obtain rfl : q = 0 := by omega
                have HRR : Hid (∀ W : World, Below w.heap.size w W → Calls Try.prog 32 #[.slice sa (B.length - at_) (c1 - at_)] W fun e w' => e = .returned (numV ((h : Int)) (0) ((kk : Int))) ∧ Below W.heap.size W w') := Lib.hid (fun W hb => by
                    have h2 := HRR0.out W hb
                    unfold GivesN at h2
                    have e1 : (Fd.refN (some (m, kk))).1 = h := HHQ.out.1.symm
                    have e2 : (Fd.refN (some (m, kk))).2.1 = 0 := HHQ.out.2.symm
                    rw [e1, e2] at h2
                    exact h2)
                have HRD : Hid (∀ W : World, Rdr W g a3 c3 B at_ → Calls Try.prog 34 #[.pointer (some ⟨g, 0, none⟩)] W (OuterR W g a3 c3 B (.int .i64 ((h : Int))) (0) (at_ + kk))) := Lib.hid (fun W hr => by
                    have h2 := rInt_any g a3 c3 B at_ hbl W hr _ HP.out
                    have e1 : iV (some (m, kk)) = (h : Int) := by
                      show Fd.zag m = _
                      unfold Fd.zag
                      have h3 := HMQ.out
                      have h4 := HHQ.out
                      split <;> omega
                    have e2 : iE (some (m, kk)) = 0 := rfl
                    rw [e1, e2] at h2
                    exact h2)
                have HLF : Hid (∀ W : World, Rdr W g a3 c3 B (at_ + kk) → Calls Try.prog 36 #[.pointer (some ⟨g, 0, none⟩)] W fun e w' => e = .returned (.int .i64 ((B.length : Int) - ((at_ : Int) + (kk : Int)))) ∧ Below W.heap.size W w' ∧ Rdr w' g a3 c3 B (at_ + kk)) := Lib.hid (fun W hr => left_Z g a3 c3 B (at_ + kk) ((at_ : Int) + (kk : Int)) (by push_cast; rfl) hbl W hr)
                have tok1 : True := trivial
                have tok2 : True := trivial
                clear HRR0 hmq hh hq hmm hkk1 hkk2 hkk3
                go_wp2_with (first
                  | (go_at_call 32; refine (HRR.out _ HS.out.1).mono ?_; rintro e w1 ⟨rfl, hb⟩; have H1 := Lib.hid (And.intro (HS.out.1.trans (hb.mono HS.out.1.size)) (HS.out.2.later hb)); clear hb x0 x1; obtain ⟨x0, x1⟩ := HC.out w1 H1.out.1 b o rfl; have sz : b < w1.heap.size := block_of_cell x0)
                  | (go_at_call 34; refine (HRD.out _ (H1.out.2.later (al1' w1 _))).mono ?_; rintro e w2 ⟨rfl, hr, hf⟩; have HQ := Lib.hid (And.intro (HLO.out _ _ (H1.out.1.trans ((al1' w1 _).mono H1.out.1.size)) hf) hr); obtain ⟨z0, z1, z2⟩ := num_kept _ _ _ _ (show g < w1.heap.size from block_of_cell H1.out.2.i) hf; clear hr hf x0 x1 sz; obtain ⟨x0, x1⟩ := HC.out w2 HQ.out.1 b o rfl)
                  | (have _t := tok1; go_at_call 36; refine (HLF.out _ HQ.out.2).mono ?_; rintro e w4 ⟨rfl, hb, hr⟩; have HQ4 := Lib.hid (And.intro (HQ.out.1.trans (hb.mono HQ.out.1.size)) hr); (replace z0 := old_cell z0 hb); (replace z1 := old_cell z1 hb); (replace z2 := old_cell z2 hb); (replace x0 := old_cell x0 hb); (replace x1 := old_cell x1 hb); clear hb hr tok1)
                  | (have _t := tok2; go_at_call 36; refine (HLF.out _ HQ4.out.2).mono ?_; rintro e w5 ⟨rfl, hb, hr⟩; have HQ5 := Lib.hid (And.intro (HQ4.out.1.trans (hb.mono HQ4.out.1.size)) hr); clear hb hr tok2))
                go_roundw
                case rel => exact ⟨k + 1, at_ + kk, by omega, by omega, by go_num, by refine congrArg _ ?_; have := HMQ.out; push_cast; omega, HQ5⟩
                case measure => simp [intOf]; omega
            · as_aux_lemma =>
                obtain rfl : q = 1 := by omega
                have HRR : Hid (∀ W : World, Below w.heap.size w W → Calls Try.prog 32 #[.slice sa (B.length - at_) (c1 - at_)] W fun e w' => e = .returned (numV ((h : Int)) (1) ((kk : Int))) ∧ Below W.heap.size W w') := Lib.hid (fun W hb => by
                    have h2 := HRR0.out W hb
                    unfold GivesN at h2
                    have e1 : (Fd.refN (some (m, kk))).1 = h := HHQ.out.1.symm
                    have e2 : (Fd.refN (some (m, kk))).2.1 = 1 := HHQ.out.2.symm
                    rw [e1, e2] at h2
                    exact h2)
                have HRD : Hid (∀ W : World, Rdr W g a3 c3 B at_ → Calls Try.prog 34 #[.pointer (some ⟨g, 0, none⟩)] W (OuterR W g a3 c3 B (.int .i64 (-1 - (h : Int))) (0) (at_ + kk))) := Lib.hid (fun W hr => by
                    have h2 := rInt_any g a3 c3 B at_ hbl W hr _ HP.out
                    have e1 : iV (some (m, kk)) = -1 - (h : Int) := by
                      show Fd.zag m = _
                      unfold Fd.zag
                      have h3 := HMQ.out
                      have h4 := HHQ.out
                      split <;> omega
                    have e2 : iE (some (m, kk)) = 0 := rfl
                    rw [e1, e2] at h2
                    exact h2)
                have HLF : Hid (∀ W : World, Rdr W g a3 c3 B (at_ + kk) → Calls Try.prog 36 #[.pointer (some ⟨g, 0, none⟩)] W fun e w' => e = .returned (.int .i64 ((B.length : Int) - ((at_ : Int) + (kk : Int)))) ∧ Below W.heap.size W w' ∧ Rdr w' g a3 c3 B (at_ + kk)) := Lib.hid (fun W hr => left_Z g a3 c3 B (at_ + kk) ((at_ : Int) + (kk : Int)) (by push_cast; rfl) hbl W hr)
                have tok1 : True := trivial
                have tok2 : True := trivial
                clear HRR0 hmq hh hq hmm hkk1 hkk2 hkk3
                go_wp2_with (first
                  | (go_at_call 32; refine (HRR.out _ HS.out.1).mono ?_; rintro e w1 ⟨rfl, hb⟩; have H1 := Lib.hid (And.intro (HS.out.1.trans (hb.mono HS.out.1.size)) (HS.out.2.later hb)); clear hb x0 x1; obtain ⟨x0, x1⟩ := HC.out w1 H1.out.1 b o rfl; have sz : b < w1.heap.size := block_of_cell x0)
                  | (go_at_call 34; refine (HRD.out _ (H1.out.2.later (al1' w1 _))).mono ?_; rintro e w2 ⟨rfl, hr, hf⟩; have HQ := Lib.hid (And.intro (HLO.out _ _ (H1.out.1.trans ((al1' w1 _).mono H1.out.1.size)) hf) hr); obtain ⟨z0, z1, z2⟩ := num_kept _ _ _ _ (show g < w1.heap.size from block_of_cell H1.out.2.i) hf; clear hr hf x0 x1 sz; obtain ⟨x0, x1⟩ := HC.out w2 HQ.out.1 b o rfl)
                  | (have _t := tok1; go_at_call 36; refine (HLF.out _ HQ.out.2).mono ?_; rintro e w4 ⟨rfl, hb, hr⟩; have HQ4 := Lib.hid (And.intro (HQ.out.1.trans (hb.mono HQ.out.1.size)) hr); (replace z0 := old_cell z0 hb); (replace z1 := old_cell z1 hb); (replace z2 := old_cell z2 hb); (replace x0 := old_cell x0 hb); (replace x1 := old_cell x1 hb); clear hb hr tok1)
                  | (have _t := tok2; go_at_call 36; refine (HLF.out _ HQ4.out.2).mono ?_; rintro e w5 ⟨rfl, hb, hr⟩; have HQ5 := Lib.hid (And.intro (HQ4.out.1.trans (hb.mono HQ4.out.1.size)) hr); clear hb hr tok2))
                go_roundw
                case rel => exact ⟨k + 1, at_ + kk, by omega, by omega, by go_num, by refine congrArg _ ?_; have := HMQ.out; push_cast; omega, HQ5⟩
                case measure => simp [intOf]; omega
        · have kb0 : (ki == 0) = false := by simpa using hk0
          have kb1 : (ki == 1) = false := by simpa using hk1
          have kb2 : (ki != 0) = true := by simpa using hk0
          have kb3 : (ki != 1) = true := by simpa using hk1
          cases P with
          | none =>
            as_aux_lemma =>
              have HRR : Hid (∀ W : World, Below w.heap.size w W → Calls Try.prog 32 #[.slice sa (B.length - at_) (c1 - at_)] W fun e w' => e = .returned (numV (0) (0) (0)) ∧ Below W.heap.size W w') := Lib.hid (fun W hb => HRR0.out W hb)
              have HRD : Hid (∀ W : World, Rdr W g a3 c3 B at_ → Calls Try.prog 35 #[.pointer (some ⟨g, 0, none⟩), .int .i64 n] W (OuterR W g a3 c3 B (.string ⟨([] : List UInt8).toArray⟩) (11) (at_))) := Lib.hid (fun W h => rText_any g a3 c3 B at_ n hbl W h none HP.out)
              have HLF : Hid (∀ W : World, Rdr W g a3 c3 B (at_) → Calls Try.prog 36 #[.pointer (some ⟨g, 0, none⟩)] W fun e w' => e = .returned (.int .i64 ((B.length : Int) - ((at_ : Int)))) ∧ Below W.heap.size W w' ∧ Rdr w' g a3 c3 B (at_)) := Lib.hid (fun W hr => left_Z g a3 c3 B (at_) ((at_ : Int)) (rfl) hbl W hr)
              have tok1 : True := trivial
              have tok2 : True := trivial
              clear HRR0
              go_wp2_with (first
                | (go_at_call 32; refine (HRR.out _ HS.out.1).mono ?_; rintro e w1 ⟨rfl, hb⟩; have H1 := Lib.hid (And.intro (HS.out.1.trans (hb.mono HS.out.1.size)) (HS.out.2.later hb)); clear hb x0 x1; obtain ⟨x0, x1⟩ := HC.out w1 H1.out.1 b o rfl; have sz : b < w1.heap.size := block_of_cell x0)
                | (go_at_call 35; refine (HRD.out _ (H1.out.2.later (al1' w1 _))).mono ?_; rintro e w2 ⟨rfl, hr, hf⟩; have HQ := Lib.hid (And.intro (HLO.out _ _ (H1.out.1.trans ((al1' w1 _).mono H1.out.1.size)) hf) hr); obtain ⟨z0, z1, z2⟩ := num_kept _ _ _ _ (show g < w1.heap.size from block_of_cell H1.out.2.i) hf; clear hr hf x0 x1 sz; obtain ⟨x0, x1⟩ := HC.out w2 HQ.out.1 b o rfl)
                | (have _t := tok1; go_at_call 36; refine (HLF.out _ HQ.out.2).mono ?_; rintro e w4 ⟨rfl, hb, hr⟩; have HQ4 := Lib.hid (And.intro (HQ.out.1.trans (hb.mono HQ.out.1.size)) hr); (replace z0 := old_cell z0 hb); (replace z1 := old_cell z1 hb); (replace z2 := old_cell z2 hb); (replace x0 := old_cell x0 hb); (replace x1 := old_cell x1 hb); clear hb hr tok1)
                | (have _t := tok2; go_at_call 36; refine (HLF.out _ HQ4.out.2).mono ?_; rintro e w5 ⟨rfl, hb, hr⟩; have HQ5 := Lib.hid (And.intro (HQ4.out.1.trans (hb.mono HQ4.out.1.size)) hr); clear hb hr tok2))
              go_roundw
              case rel => exact ⟨k + 1, at_, by omega, by omega, by go_num, rfl, HQ4⟩
              case measure => simp [intOf]; omega
          | some q =>
            obtain ⟨m, kk⟩ := q
            obtain ⟨hmm, _, hkk1, hkk2, hkk3⟩ := Fd.parse_at HP.out
            rw [List.length_drop] at hkk2
            obtain ⟨h, hh⟩ : ∃ h, h = m / 2 := ⟨_, rfl⟩
            obtain ⟨q, hq⟩ : ∃ q, q = m % 2 := ⟨_, rfl⟩
            have hmq : 2 * h + q = m := by omega
            have hq1 : q ≤ 1 := by omega
            have HMQ := Lib.hid hmq
            have HHQ := Lib.hid (And.intro hh hq)
            have ks1 : (1 : Int) ≤ (kk : Int) := by omega
            have ks2 : (kk : Int) ≤ 10 := by omega
            have ks3 : (at_ : Int) + (kk : Int) ≤ (B.length : Int) := by omega
            have ks4 : ((kk : Int) == 0) = false := by simp; omega
            have hq2 : (q : Int) ≤ 1 := by omega
            by_cases hm : m < 9223372036854775808
            · by_cases hmn : n < (m : Int)
              · as_aux_lemma =>
                  have hb1 : decide ((4611686018427387904 : Int) ≤ (h : Int)) = false := decide_eq_false (by omega)
                  have hb2 : 2 * (h : Int) + (q : Int) ≤ 9223372036854775807 := by omega
                  have hb3 : 2 * (h : Int) ≤ 9223372036854775807 := by omega
                  have hn3 : n < 2 * (h : Int) + (q : Int) := by omega
                  have HTE : Hid (tE B.length at_ n (some (m, kk)) = 23) := Lib.hid (by rw [tE_eq, if_pos hm, if_pos hmn])
                  have HTV : Hid (tV B at_ n (some (m, kk)) = []) := Lib.hid (tV_no (by rw [HTE.out]; decide))
                  have HRR : Hid (∀ W : World, Below w.heap.size w W → Calls Try.prog 32 #[.slice sa (B.length - at_) (c1 - at_)] W fun e w' => e = .returned (numV ((h : Int)) ((q : Int)) ((kk : Int))) ∧ Below W.heap.size W w') := Lib.hid (fun W hb => by
                      have h2 := HRR0.out W hb
                      unfold GivesN at h2
                      have e1 : (Fd.refN (some (m, kk))).1 = h := HHQ.out.1.symm
                      have e2 : (Fd.refN (some (m, kk))).2.1 = q := HHQ.out.2.symm
                      rw [e1, e2] at h2
                      exact h2)
                  have HRD : Hid (∀ W : World, Rdr W g a3 c3 B at_ → Calls Try.prog 35 #[.pointer (some ⟨g, 0, none⟩), .int .i64 n] W (OuterR W g a3 c3 B (.string ⟨([] : List UInt8).toArray⟩) (23) (at_))) := Lib.hid (fun W hr => by
                      have h2 := rText_any g a3 c3 B at_ n hbl W hr _ HP.out
                      rw [HTE.out, HTV.out] at h2
                      exact h2)
                  have HLF : Hid (∀ W : World, Rdr W g a3 c3 B (at_) → Calls Try.prog 36 #[.pointer (some ⟨g, 0, none⟩)] W fun e w' => e = .returned (.int .i64 ((B.length : Int) - ((at_ : Int)))) ∧ Below W.heap.size W w' ∧ Rdr w' g a3 c3 B (at_)) := Lib.hid (fun W hr => left_Z g a3 c3 B (at_) ((at_ : Int)) (rfl) hbl W hr)
                  have tok1 : True := trivial
                  have tok2 : True := trivial
                  have ws1 : IntKind.i64.wrap (2 * (h : Int)) = 2 * (h : Int) := by rw [IntKind.wrap_i64]; omega
                  have ws2 : IntKind.i64.wrap (2 * (h : Int) + (q : Int)) = 2 * (h : Int) + (q : Int) := by rw [IntKind.wrap_i64]; omega
                  clear HRR0 hmq hh hq hmm hkk1 hkk2 hkk3
                  clear hm hmn
                  go_upto_region 26 with (first
                    | (go_at_call 32; refine (HRR.out _ HS.out.1).mono ?_; rintro e w1 ⟨rfl, hb⟩; have H1 := Lib.hid (And.intro (HS.out.1.trans (hb.mono HS.out.1.size)) (HS.out.2.later hb)); clear hb x0 x1; obtain ⟨x0, x1⟩ := HC.out w1 H1.out.1 b o rfl; have sz : b < w1.heap.size := block_of_cell x0)
                    | (go_at_call 35; refine (HRD.out _ (H1.out.2.later (al1' w1 _))).mono ?_; rintro e w2 ⟨rfl, hr, hf⟩; have HQ := Lib.hid (And.intro (HLO.out _ _ (H1.out.1.trans ((al1' w1 _).mono H1.out.1.size)) hf) hr); obtain ⟨z0, z1, z2⟩ := num_kept _ _ _ _ (show g < w1.heap.size from block_of_cell H1.out.2.i) hf; clear hr hf x0 x1 sz; obtain ⟨x0, x1⟩ := HC.out w2 HQ.out.1 b o rfl))
                  go_quiet (fail)
                  have HQ2 := Lib.hid (And.intro (HQ.out.1.trans ((drewN_below w2 nq).mono HQ.out.1.size)) (HQ.out.2.later (drewN_below w2 nq)))
                  have u0 := old_cell z0 (drewN_below w2 nq)
                  have u1 := old_cell z1 (drewN_below w2 nq)
                  have u2 := old_cell z2 (drewN_below w2 nq)
                  have u3 := old_cell x0 (drewN_below w2 nq)
                  have u4 := old_cell x1 (drewN_below w2 nq)
                  clear z0 z1 z2 x0 x1 HQ
                  generalize w2.drewN nq = w3 at *
                  have HQ := HQ2
                  have z0 := u0
                  have z1 := u1
                  have z2 := u2
                  have x0 := u3
                  have x1 := u4
                  clear u0 u1 u2 u3 u4 HQ2
                  go_wp2_with (first
                    | (have _t := tok1; go_at_call 36; refine (HLF.out _ HQ.out.2).mono ?_; rintro e w4 ⟨rfl, hb, hr⟩; have HQ4 := Lib.hid (And.intro (HQ.out.1.trans (hb.mono HQ.out.1.size)) hr); (replace z0 := old_cell z0 hb); (replace z1 := old_cell z1 hb); (replace z2 := old_cell z2 hb); (replace x0 := old_cell x0 hb); (replace x1 := old_cell x1 hb); clear hb hr tok1)
                    | (have _t := tok2; go_at_call 36; refine (HLF.out _ HQ4.out.2).mono ?_; rintro e w5 ⟨rfl, hb, hr⟩; have HQ5 := Lib.hid (And.intro (HQ4.out.1.trans (hb.mono HQ4.out.1.size)) hr); clear hb hr tok2))
                  go_roundw
                  case rel => exact ⟨k + 1, at_, by omega, by omega, by go_num, rfl, HQ4⟩
                  case measure => simp [intOf]; omega
              · by_cases hmb : B.length < at_ + kk + m
                · as_aux_lemma =>
                    have hb1 : decide ((4611686018427387904 : Int) ≤ (h : Int)) = false := decide_eq_false (by omega)
                    have hb2 : 2 * (h : Int) + (q : Int) ≤ 9223372036854775807 := by omega
                    have hb3 : 2 * (h : Int) ≤ 9223372036854775807 := by omega
                    have hn3 : 2 * (h : Int) + (q : Int) ≤ n := by omega
                    have hn4 : (B.length : Int) - (at_ : Int) - (kk : Int) < 2 * (h : Int) + (q : Int) := by omega
                    have HTE : Hid (tE B.length at_ n (some (m, kk)) = 11) := Lib.hid (by rw [tE_eq, if_pos hm, if_neg hmn, if_pos hmb])
                    have HTV : Hid (tV B at_ n (some (m, kk)) = []) := Lib.hid (tV_no (by rw [HTE.out]; decide))
                    have HRR : Hid (∀ W : World, Below w.heap.size w W → Calls Try.prog 32 #[.slice sa (B.length - at_) (c1 - at_)] W fun e w' => e = .returned (numV ((h : Int)) ((q : Int)) ((kk : Int))) ∧ Below W.heap.size W w') := Lib.hid (fun W hb => by
                        have h2 := HRR0.out W hb
                        unfold GivesN at h2
                        have e1 : (Fd.refN (some (m, kk))).1 = h := HHQ.out.1.symm
                        have e2 : (Fd.refN (some (m, kk))).2.1 = q := HHQ.out.2.symm
                        rw [e1, e2] at h2
                        exact h2)
                    have HRD : Hid (∀ W : World, Rdr W g a3 c3 B at_ → Calls Try.prog 35 #[.pointer (some ⟨g, 0, none⟩), .int .i64 n] W (OuterR W g a3 c3 B (.string ⟨([] : List UInt8).toArray⟩) (11) (at_))) := Lib.hid (fun W hr => by
                        have h2 := rText_any g a3 c3 B at_ n hbl W hr _ HP.out
                        rw [HTE.out, HTV.out] at h2
                        exact h2)
                    have HLF : Hid (∀ W : World, Rdr W g a3 c3 B (at_) → Calls Try.prog 36 #[.pointer (some ⟨g, 0, none⟩)] W fun e w' => e = .returned (.int .i64 ((B.length : Int) - ((at_ : Int)))) ∧ Below W.heap.size W w' ∧ Rdr w' g a3 c3 B (at_)) := Lib.hid (fun W hr => left_Z g a3 c3 B (at_) ((at_ : Int)) (rfl) hbl W hr)
                    have tok1 : True := trivial
                    have tok2 : True := trivial
                    have ws1 : IntKind.i64.wrap (2 * (h : Int)) = 2 * (h : Int) := by rw [IntKind.wrap_i64]; omega
                    have ws2 : IntKind.i64.wrap (2 * (h : Int) + (q : Int)) = 2 * (h : Int) + (q : Int) := by rw [IntKind.wrap_i64]; omega
                    clear HRR0 hmq hh hq hmm hkk1 hkk2 hkk3
                    clear hm hmn hmb
                    go_upto_region 26 with (first
                      | (go_at_call 32; refine (HRR.out _ HS.out.1).mono ?_; rintro e w1 ⟨rfl, hb⟩; have H1 := Lib.hid (And.intro (HS.out.1.trans (hb.mono HS.out.1.size)) (HS.out.2.later hb)); clear hb x0 x1; obtain ⟨x0, x1⟩ := HC.out w1 H1.out.1 b o rfl; have sz : b < w1.heap.size := block_of_cell x0)
                      | (go_at_call 35; refine (HRD.out _ (H1.out.2.later (al1' w1 _))).mono ?_; rintro e w2 ⟨rfl, hr, hf⟩; have HQ := Lib.hid (And.intro (HLO.out _ _ (H1.out.1.trans ((al1' w1 _).mono H1.out.1.size)) hf) hr); obtain ⟨z0, z1, z2⟩ := num_kept _ _ _ _ (show g < w1.heap.size from block_of_cell H1.out.2.i) hf; clear hr hf x0 x1 sz; obtain ⟨x0, x1⟩ := HC.out w2 HQ.out.1 b o rfl))
                    go_quiet (fail)
                    have HQ2 := Lib.hid (And.intro (HQ.out.1.trans ((drewN_below w2 nq).mono HQ.out.1.size)) (HQ.out.2.later (drewN_below w2 nq)))
                    have u0 := old_cell z0 (drewN_below w2 nq)
                    have u1 := old_cell z1 (drewN_below w2 nq)
                    have u2 := old_cell z2 (drewN_below w2 nq)
                    have u3 := old_cell x0 (drewN_below w2 nq)
                    have u4 := old_cell x1 (drewN_below w2 nq)
                    clear z0 z1 z2 x0 x1 HQ
                    generalize w2.drewN nq = w3 at *
                    have HQ := HQ2
                    have z0 := u0
                    have z1 := u1
                    have z2 := u2
                    have x0 := u3
                    have x1 := u4
                    clear u0 u1 u2 u3 u4 HQ2
                    go_wp2_with (first
                      | (have _t := tok1; go_at_call 36; refine (HLF.out _ HQ.out.2).mono ?_; rintro e w4 ⟨rfl, hb, hr⟩; have HQ4 := Lib.hid (And.intro (HQ.out.1.trans (hb.mono HQ.out.1.size)) hr); (replace z0 := old_cell z0 hb); (replace z1 := old_cell z1 hb); (replace z2 := old_cell z2 hb); (replace x0 := old_cell x0 hb); (replace x1 := old_cell x1 hb); clear hb hr tok1)
                      | (have _t := tok2; go_at_call 36; refine (HLF.out _ HQ4.out.2).mono ?_; rintro e w5 ⟨rfl, hb, hr⟩; have HQ5 := Lib.hid (And.intro (HQ4.out.1.trans (hb.mono HQ4.out.1.size)) hr); clear hb hr tok2))
                    go_roundw
                    case rel => exact ⟨k + 1, at_, by omega, by omega, by go_num, rfl, HQ4⟩
                    case measure => simp [intOf]; omega
                · as_aux_lemma =>
                    have hb1 : decide ((4611686018427387904 : Int) ≤ (h : Int)) = false := decide_eq_false (by omega)
                    have hb2 : 2 * (h : Int) + (q : Int) ≤ 9223372036854775807 := by omega
                    have hb3 : 2 * (h : Int) ≤ 9223372036854775807 := by omega
                    have hn3 : 2 * (h : Int) + (q : Int) ≤ n := by omega
                    have hn4 : 2 * (h : Int) + (q : Int) ≤ (B.length : Int) - (at_ : Int) - (kk : Int) := by omega
                    have hn5 : 2 * (h : Int) + (q : Int) ≤ 100 := by omega
                    have HTE : Hid (tE B.length at_ n (some (m, kk)) = 0) := Lib.hid (by rw [tE_eq, if_pos hm, if_neg hmn, if_neg hmb])
                    obtain ⟨T, hT⟩ : ∃ T, T = (B.drop (at_ + kk)).take m := ⟨_, rfl⟩
                    have HTV : Hid (tV B at_ n (some (m, kk)) = T) := Lib.hid (by rw [tV_yes HTE.out, hT])
                    obtain ⟨sb, hsl2, hsr2⟩ := lh_ex (P := Try.prog) 25 Try.underlying25 1 Try.sizeOf5 a1 B.length c1 (at_ + kk) (at_ + kk + m) ((at_ : Int) + (kk : Int)) ((at_ : Int) + (kk : Int) + (2 * (h : Int) + (q : Int))) (by push_cast; rfl) (by push_cast; omega) (by omega) (by omega) hcap.1
                    rw [show at_ + kk + m - (at_ + kk) = m by omega] at hsl2 hsr2
                    have HCV : Hid (∀ W : World, Below w.heap.size w W → (convert 25 9 (.slice sb m (c1 - (at_ + kk)))).run Try.prog W = .ok (.string ⟨T.toArray⟩) W) := Lib.hid (fun W hb => by
                      have h2 := hsr2 W _ (HB.out.later hb)
                      rw [Nat.mul_one, Nat.mul_one, bytesV_drop, bytesV_take, ← hT] at h2
                      exact run_bytes_str Try.underlying25 Try.underlying5 Try.underlying9 h2)
                    have HRR : Hid (∀ W : World, Below w.heap.size w W → Calls Try.prog 32 #[.slice sa (B.length - at_) (c1 - at_)] W fun e w' => e = .returned (numV ((h : Int)) ((q : Int)) ((kk : Int))) ∧ Below W.heap.size W w') := Lib.hid (fun W hb => by
                        have h2 := HRR0.out W hb
                        unfold GivesN at h2
                        have e1 : (Fd.refN (some (m, kk))).1 = h := HHQ.out.1.symm
                        have e2 : (Fd.refN (some (m, kk))).2.1 = q := HHQ.out.2.symm
                        rw [e1, e2] at h2
                        exact h2)
                    have HRD : Hid (∀ W : World, Rdr W g a3 c3 B at_ → Calls Try.prog 35 #[.pointer (some ⟨g, 0, none⟩), .int .i64 n] W (OuterR W g a3 c3 B (.string ⟨T.toArray⟩) (0) (at_ + (kk + m)))) := Lib.hid (fun W hr => by
                        have h2 := rText_any g a3 c3 B at_ n hbl W hr _ HP.out
                        rw [HTE.out, HTV.out] at h2
                        exact h2)
                    have HLF : Hid (∀ W : World, Rdr W g a3 c3 B (at_ + (kk + m)) → Calls Try.prog 36 #[.pointer (some ⟨g, 0, none⟩)] W fun e w' => e = .returned (.int .i64 ((B.length : Int) - ((at_ : Int) + (2 * (h : Int) + (q : Int)) + (kk : Int)))) ∧ Below W.heap.size W w' ∧ Rdr w' g a3 c3 B (at_ + (kk + m))) := Lib.hid (fun W hr => left_Z g a3 c3 B (at_ + (kk + m)) ((at_ : Int) + (2 * (h : Int) + (q : Int)) + (kk : Int)) (by have := HMQ.out; push_cast; omega) hbl W hr)
                    have tok1 : True := trivial
                    have tok2 : True := trivial
                    have ws1 : IntKind.i64.wrap (2 * (h : Int)) = 2 * (h : Int) := by rw [IntKind.wrap_i64]; omega
                    have ws2 : IntKind.i64.wrap (2 * (h : Int) + (q : Int)) = 2 * (h : Int) + (q : Int) := by rw [IntKind.wrap_i64]; omega
                    have hA : at_ + (kk + m) ≤ B.length := by omega
                    clear HRR0 hmq hh hq hmm hkk1 hkk2 hsr2 hT hkk3
                    clear hm hmn hmb
                    go_upto_region 26 with (first
                      | (go_at_call 32; refine (HRR.out _ HS.out.1).mono ?_; rintro e w1 ⟨rfl, hb⟩; have H1 := Lib.hid (And.intro (HS.out.1.trans (hb.mono HS.out.1.size)) (HS.out.2.later hb)); clear hb x0 x1; obtain ⟨x0, x1⟩ := HC.out w1 H1.out.1 b o rfl; have sz : b < w1.heap.size := block_of_cell x0)
                      | (go_at_call 35; refine (HRD.out _ (H1.out.2.later (al1' w1 _))).mono ?_; rintro e w2 ⟨rfl, hr, hf⟩; have HQ := Lib.hid (And.intro (HLO.out _ _ (H1.out.1.trans ((al1' w1 _).mono H1.out.1.size)) hf) hr); obtain ⟨z0, z1, z2⟩ := num_kept _ _ _ _ (show g < w1.heap.size from block_of_cell H1.out.2.i) hf; clear hr hf x0 x1 sz; obtain ⟨x0, x1⟩ := HC.out w2 HQ.out.1 b o rfl))
                    go_quiet (fail)
                    have HQ2 := Lib.hid (And.intro (HQ.out.1.trans ((drewN_below w2 nq).mono HQ.out.1.size)) (HQ.out.2.later (drewN_below w2 nq)))
                    have u0 := old_cell z0 (drewN_below w2 nq)
                    have u1 := old_cell z1 (drewN_below w2 nq)
                    have u2 := old_cell z2 (drewN_below w2 nq)
                    have u3 := old_cell x0 (drewN_below w2 nq)
                    have u4 := old_cell x1 (drewN_below w2 nq)
                    clear z0 z1 z2 x0 x1 HQ
                    generalize w2.drewN nq = w3 at *
                    have HQ := HQ2
                    have z0 := u0
                    have z1 := u1
                    have z2 := u2
                    have x0 := u3
                    have x1 := u4
                    clear u0 u1 u2 u3 u4 HQ2
                    go_wp2_with (first
                      | (have _t := tok1; go_at_call 36; refine (HLF.out _ HQ.out.2).mono ?_; rintro e w4 ⟨rfl, hb, hr⟩; have HQ4 := Lib.hid (And.intro (HQ.out.1.trans (hb.mono HQ.out.1.size)) hr); (replace z0 := old_cell z0 hb); (replace z1 := old_cell z1 hb); (replace z2 := old_cell z2 hb); (replace x0 := old_cell x0 hb); (replace x1 := old_cell x1 hb); have hcv := HCV.out w4 HQ4.out.1; clear hb hr tok1)
                      | (have _t := tok2; go_at_call 36; refine (HLF.out _ HQ4.out.2).mono ?_; rintro e w5 ⟨rfl, hb, hr⟩; have HQ5 := Lib.hid (And.intro (HQ4.out.1.trans (hb.mono HQ4.out.1.size)) hr); clear hb hr tok2))
                    go_roundw
                    case rel => exact ⟨k + 1, at_ + (kk + m), by omega, by omega, by go_num, by refine congrArg _ ?_; have := HMQ.out; push_cast; omega, HQ5⟩
                    case measure => simp [intOf]; omega
            · as_aux_lemma =>
                have hb1 : (4611686018427387904 : Int) ≤ (h : Int) := by omega
                have HTE : Hid (tE B.length at_ n (some (m, kk)) = 10) := Lib.hid (by rw [tE_eq, if_neg hm])
                have HTV : Hid (tV B at_ n (some (m, kk)) = []) := Lib.hid (tV_no (by rw [HTE.out]; decide))
                have HRR : Hid (∀ W : World, Below w.heap.size w W → Calls Try.prog 32 #[.slice sa (B.length - at_) (c1 - at_)] W fun e w' => e = .returned (numV ((h : Int)) ((q : Int)) ((kk : Int))) ∧ Below W.heap.size W w') := Lib.hid (fun W hb => by
                    have h2 := HRR0.out W hb
                    unfold GivesN at h2
                    have e1 : (Fd.refN (some (m, kk))).1 = h := HHQ.out.1.symm
                    have e2 : (Fd.refN (some (m, kk))).2.1 = q := HHQ.out.2.symm
                    rw [e1, e2] at h2
                    exact h2)
                have HRD : Hid (∀ W : World, Rdr W g a3 c3 B at_ → Calls Try.prog 35 #[.pointer (some ⟨g, 0, none⟩), .int .i64 n] W (OuterR W g a3 c3 B (.string ⟨([] : List UInt8).toArray⟩) (10) (at_))) := Lib.hid (fun W hr => by
                    have h2 := rText_any g a3 c3 B at_ n hbl W hr _ HP.out
                    rw [HTE.out, HTV.out] at h2
                    exact h2)
                have HLF : Hid (∀ W : World, Rdr W g a3 c3 B (at_) → Calls Try.prog 36 #[.pointer (some ⟨g, 0, none⟩)] W fun e w' => e = .returned (.int .i64 ((B.length : Int) - ((at_ : Int)))) ∧ Below W.heap.size W w' ∧ Rdr w' g a3 c3 B (at_)) := Lib.hid (fun W hr => left_Z g a3 c3 B (at_) ((at_ : Int)) (rfl) hbl W hr)
                have tok1 : True := trivial
                have tok2 : True := trivial
                clear HRR0 hmq hh hq hmm hkk1 hkk2 hkk3
                clear hm
                go_wp2_with (first
                  | (go_at_call 32; refine (HRR.out _ HS.out.1).mono ?_; rintro e w1 ⟨rfl, hb⟩; have H1 := Lib.hid (And.intro (HS.out.1.trans (hb.mono HS.out.1.size)) (HS.out.2.later hb)); clear hb x0 x1; obtain ⟨x0, x1⟩ := HC.out w1 H1.out.1 b o rfl; have sz : b < w1.heap.size := block_of_cell x0)
                  | (go_at_call 35; refine (HRD.out _ (H1.out.2.later (al1' w1 _))).mono ?_; rintro e w2 ⟨rfl, hr, hf⟩; have HQ := Lib.hid (And.intro (HLO.out _ _ (H1.out.1.trans ((al1' w1 _).mono H1.out.1.size)) hf) hr); obtain ⟨z0, z1, z2⟩ := num_kept _ _ _ _ (show g < w1.heap.size from block_of_cell H1.out.2.i) hf; clear hr hf x0 x1 sz; obtain ⟨x0, x1⟩ := HC.out w2 HQ.out.1 b o rfl)
                  | (have _t := tok1; go_at_call 36; refine (HLF.out _ HQ.out.2).mono ?_; rintro e w4 ⟨rfl, hb, hr⟩; have HQ4 := Lib.hid (And.intro (HQ.out.1.trans (hb.mono HQ.out.1.size)) hr); (replace z0 := old_cell z0 hb); (replace z1 := old_cell z1 hb); (replace z2 := old_cell z2 hb); (replace x0 := old_cell x0 hb); (replace x1 := old_cell x1 hb); clear hb hr tok1)
                  | (have _t := tok2; go_at_call 36; refine (HLF.out _ HQ4.out.2).mono ?_; rintro e w5 ⟨rfl, hb, hr⟩; have HQ5 := Lib.hid (And.intro (HQ4.out.1.trans (hb.mono HQ4.out.1.size)) hr); clear hb hr tok2))
                go_roundw
                case rel => exact ⟨k + 1, at_, by omega, by omega, by go_num, rfl, HQ4⟩
                case measure => simp [intOf]; omega
    · obtain rfl : k = L.length := by omega
      go_wp2_with (go_at_call 23; refine (awake02 _).mono ?_; rintro e w4 ⟨rfl, hb⟩; have H4 := Lib.hid (HS.out.1.trans (hb.mono HS.out.1.size)); clear hb)
      go_ret
      exact ⟨rfl, H4.out⟩
end Go.Proofs.Ytapjdcofnigjhaa
