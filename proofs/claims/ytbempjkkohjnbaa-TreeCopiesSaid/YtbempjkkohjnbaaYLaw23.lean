/- Joined: Law23. -/
import Derived.Test.YtbempjkkohjnbaaYLaw22
import Derived.Test.YtbempjkkohjnbaaYLaw7
/- The laws of package cursor: CursorScans. -/
namespace Go.Proofs.Ytbempjkkohjnbaa
open Go.RowKit Tr
open Ky (less)
theorem okL_short {L : List Pr} (h : OkL L) : ∀ p ∈ L, p.1.length ≤ 1000 := fun p hp => by
  have := (h p hp).1
  unfold okTk at this
  have h2 := of_decide_eq_true this
  omega
set_option maxHeartbeats 4000000 in
set_option maxRecDepth 100000 in
theorem cursorScans_walk (a : Option Addr) (c : Nat) (l : List TOp) (s t : Str) (most : Int) (w : World) (hr : Rd w 3 a l.length c (topsV l)) (hok : ∀ x ∈ l, OkTop x) :
    Calls Try.prog 8 #[.slice a l.length c, .agg #[.string ⟨s.toArray⟩, .string ⟨t.toArray⟩], .int .i64 most] w (Yes w) := by
  have hcap := hr.cap
  have hle := hr.le
  unfold maxLen at hcap
  have HA := Lib.hid (fun W => awake5_any W)
  obtain ⟨W, hW⟩ : ∃ W, w.alloc (.cells #[.string ⟨s.toArray⟩, .string ⟨t.toArray⟩] 67) = W := ⟨_, rfl⟩
  have hbW : Below w.heap.size w W := by rw [← hW]; exact al1 w _
  have x0 : W.cell? ⟨w.heap.size, 0, none⟩ = some (.string ⟨s.toArray⟩) := by rw [← hW]; simp
  have x1 : W.cell? ⟨w.heap.size, 1, none⟩ = some (.string ⟨t.toArray⟩) := by rw [← hW]; simp
  have HX : Hid (∀ V, Below W.heap.size W V → V.cell? ⟨w.heap.size, 0, none⟩ = some (.string ⟨s.toArray⟩) ∧ V.cell? ⟨w.heap.size, 1, none⟩ = some (.string ⟨t.toArray⟩)) := Lib.hid (fun V hb => ⟨old_cell x0 hb, old_cell x1 hb⟩)
  have HFin : Hid (∀ V, Below W.heap.size W V → Below w.heap.size w V) := Lib.hid (fun V h => hbW.trans (h.mono hbW.size))
  have HF := Lib.hid (fun V (h : Below W.heap.size W V) => few_any a c l (by omega) hok V ((hr.later hbW).later h))
  have HSh := Lib.hid (fun V => short_any s t V)
  by_cases hf : fewL l
  case neg =>
    have hff : decide (fewL l) = false := by simpa using hf
    rw [hff] at HF
    clear hr hok hf hff hbW
    go_enter Try.func8, Try.ntmps8
    go_wp2_with (first
      | (go_at_call 29; refine (HF.out _ (Below.refl _ _)).mono ?_; rintro e V ⟨rfl, rfl⟩)
      | (go_at_call 35; refine (HSh.out _).mono ?_; rintro e V1 ⟨rfl, hb⟩; have H1 := Lib.hid hb; obtain ⟨d0, d1⟩ := HX.out _ hb; clear hb)
      | (go_at_call 24; refine (HA.out _).mono ?_; rintro e V5 ⟨rfl, hb⟩; have HB := Lib.hid hb; clear hb))
    go_ret
    exact ⟨rfl, HFin.out _ HB.out⟩
  have hff : decide (fewL l) = true := by simpa using hf
  have hl := hf.2
  rw [hff] at HF
  by_cases hsh : s.length ≤ 300 ∧ t.length ≤ 300
  case neg =>
    rw [decide_eq_false hsh] at HSh
    clear hr hok hf hff hbW hsh
    go_enter Try.func8, Try.ntmps8
    go_wp2_with (first
      | (go_at_call 29; refine (HF.out _ (Below.refl _ _)).mono ?_; rintro e V ⟨rfl, rfl⟩)
      | (go_at_call 35; refine (HSh.out _).mono ?_; rintro e V1 ⟨rfl, hb⟩; have H1 := Lib.hid hb; obtain ⟨d0, d1⟩ := HX.out _ hb; clear hb)
      | (go_at_call 24; refine (HA.out _).mono ?_; rintro e V5 ⟨rfl, hb⟩; have HB := Lib.hid hb; clear hb))
    go_ret
    exact ⟨rfl, HFin.out _ (H1.out.trans (HB.out.mono H1.out.size))⟩
  rw [decide_eq_true hsh] at HSh
  have HM := Lib.hid (fun V (h : Below W.heap.size W V) => made_any 2 (by omega) (by omega) a c l hl V ((hr.later hbW).later h))
  obtain ⟨L, hL⟩ : ∃ L, runL l = L := ⟨_, rfl⟩
  have HOk : Hid (OkL L) := Lib.hid (by rw [← hL]; exact okL_run l)
  have HLn : Hid (L.length ≤ 200) := Lib.hid (by rw [← hL]; have := run_len l; omega)
  rw [hL] at HM
  have q2 : binOp .neq 9 (.string ⟨t.toArray⟩) (.string ⟨#[]⟩) = pure (.bool (!(t == []))) := str_neq 9 t []
  have q3 := str_lss 9 t s
  clear hr hok hf hff hbW hsh hL
  by_cases hbad : t ≠ [] ∧ less t s = true
  · -- the order is wrong
    have HB2 := Lib.hid (fun b W => scan_bad b s t most hbad.1 hbad.2 W)
    rw [show (t == []) = false by simpa using hbad.1] at q2
    rw [show Op.bytesLess t s = true from hbad.2] at q3
    clear hbad
    go_enter Try.func8, Try.ntmps8
    go_wp2_with (first
      | (go_at_call 29; refine (HF.out _ (Below.refl _ _)).mono ?_; rintro e V ⟨rfl, rfl⟩)
      | (go_at_call 35; refine (HSh.out _).mono ?_; rintro e V1 ⟨rfl, hb⟩; have H1 := Lib.hid hb; obtain ⟨d0, d1⟩ := HX.out _ hb; clear hb)
      | (go_at_call 36; refine (HM.out _ H1.out).mono ?_; rintro e V2 ⟨b, r, rfl, ho⟩; have H2 := Lib.hid ho; have H2b := Lib.hid (H1.out.trans (ho.low.mono H1.out.size)); obtain ⟨d2, d3⟩ := HX.out _ H2b.out; clear ho)
      | (go_at_call 27; refine (HB2.out _ _).mono ?_; rintro e V3 ⟨rfl, hb⟩; have H3 := Lib.hid (H2b.out.trans (hb.mono H2b.out.size)); obtain ⟨d4, d5⟩ := HX.out _ H3.out; clear hb; unfold scanBad)
      | (go_at_call 24; refine (HA.out _).mono ?_; rintro e V5 ⟨rfl, hb⟩; have HB := Lib.hid hb; clear hb))
    go_ret
    exact ⟨rfl, HFin.out _ (H3.out.trans (HB.out.mono H3.out.size))⟩
  have hgood : t = [] ∨ less t s = false := by
    by_cases h1 : t = []
    · exact .inl h1
    · cases h2 : less t s with
      | true => exact absurd ⟨h1, h2⟩ hbad
      | false => exact .inr rfl
  have HG : Hid (t = [] ∨ less t s = false) := Lib.hid hgood
  have hq : (t == []) = true ∨ ((t == []) = false ∧ Op.bytesLess t s = false) := by
    rcases hgood with h | h
    · exact .inl (by simp [h])
    · by_cases h1 : t = []
      · exact .inl (by simp [h1])
      · exact .inr ⟨by simpa using h1, h⟩
  clear hbad hgood
  by_cases hm : most < 0
  · have HB2 := Lib.hid (fun b W => scan_neg b s t most HG.out hm W)
    rcases hq with hq | ⟨hq, hq'⟩
    · rw [hq] at q2
      clear hq
      go_enter Try.func8, Try.ntmps8
      go_wp2_with (first
      | (go_at_call 29; refine (HF.out _ (Below.refl _ _)).mono ?_; rintro e V ⟨rfl, rfl⟩)
      | (go_at_call 35; refine (HSh.out _).mono ?_; rintro e V1 ⟨rfl, hb⟩; have H1 := Lib.hid hb; obtain ⟨d0, d1⟩ := HX.out _ hb; clear hb)
        | (go_at_call 36; refine (HM.out _ H1.out).mono ?_; rintro e V2 ⟨b, r, rfl, ho⟩; have H2 := Lib.hid ho; have H2b := Lib.hid (H1.out.trans (ho.low.mono H1.out.size)); obtain ⟨d2, d3⟩ := HX.out _ H2b.out; clear ho)
        | (go_at_call 27; refine (HB2.out _ _).mono ?_; rintro e V3 ⟨rfl, hb⟩; have H3 := Lib.hid (H2b.out.trans (hb.mono H2b.out.size)); obtain ⟨d4, d5⟩ := HX.out _ H3.out; clear hb; unfold scanBad)
        | (go_at_call 24; refine (HA.out _).mono ?_; rintro e V5 ⟨rfl, hb⟩; have HB := Lib.hid hb; clear hb))
      go_ret
      exact ⟨rfl, HFin.out _ (H3.out.trans (HB.out.mono H3.out.size))⟩
    · rw [hq] at q2
      rw [hq'] at q3
      clear hq hq'
      go_enter Try.func8, Try.ntmps8
      go_wp2_with (first
      | (go_at_call 29; refine (HF.out _ (Below.refl _ _)).mono ?_; rintro e V ⟨rfl, rfl⟩)
      | (go_at_call 35; refine (HSh.out _).mono ?_; rintro e V1 ⟨rfl, hb⟩; have H1 := Lib.hid hb; obtain ⟨d0, d1⟩ := HX.out _ hb; clear hb)
        | (go_at_call 36; refine (HM.out _ H1.out).mono ?_; rintro e V2 ⟨b, r, rfl, ho⟩; have H2 := Lib.hid ho; have H2b := Lib.hid (H1.out.trans (ho.low.mono H1.out.size)); obtain ⟨d2, d3⟩ := HX.out _ H2b.out; clear ho)
        | (go_at_call 27; refine (HB2.out _ _).mono ?_; rintro e V3 ⟨rfl, hb⟩; have H3 := Lib.hid (H2b.out.trans (hb.mono H2b.out.size)); obtain ⟨d4, d5⟩ := HX.out _ H3.out; clear hb; unfold scanBad)
        | (go_at_call 24; refine (HA.out _).mono ?_; rintro e V5 ⟨rfl, hb⟩; have HB := Lib.hid hb; clear hb))
      go_ret
      exact ⟨rfl, HFin.out _ (H3.out.trans (HB.out.mono H3.out.size))⟩
  obtain ⟨k, rfl⟩ : ∃ k : Nat, most = k := ⟨most.toNat, by omega⟩
  have hm2 : ¬ (k : Int) < 0 := by omega
  obtain ⟨xs, hxs⟩ : ∃ xs, (Tr.rng s t L).take k = xs := ⟨_, rfl⟩
  have HSc := Lib.hid (fun (B : Nat) (w0 V : World) (b r : Nat) (h : Own B w0 [TreeR b 2 L, LstR r L] V) => (by
    have := own_scan s t k HG.out h (okL_short HOk.out) (by have := HLn.out; omega)
    rw [hxs] at this
    exact this : Calls Try.prog 27 #[ptrV b, .string ⟨s.toArray⟩, .string ⟨t.toArray⟩, .int .i64 k] V fun e V2 => ∃ (a : Option Addr) (c : Nat), e = .returned (.tuple #[.slice a xs.length c, .int .i64 0]) ∧ Rd V2 2 a xs.length c (pairsV xs) ∧ Below V.heap.size V V2))
  have HRg := Lib.hid (fun (B : Nat) (w0 V : World) (b r : Nat) (h : Own B w0 [TreeR b 2 L, LstR r L] V) => (by
    obtain ⟨F1, ⟨F, a, c, hl, rfl⟩, _, _⟩ := h.swap.open1
    have := range_any r F a c L s t k (by have := HLn.out; omega) V hl
    rw [hxs] at this
    exact this : Calls Try.prog 37 #[ptrV r, .agg #[.string ⟨s.toArray⟩, .string ⟨t.toArray⟩], .int .i64 k] V fun e V2 => ∃ a c, e = .returned (.slice a xs.length c) ∧ Rd V2 2 a xs.length c (pairsV xs) ∧ Below V.heap.size V V2))
  have hlen : xs.length ≤ 200 := by
    rw [← hxs, List.length_take]
    have := rng_len s t L
    have := HLn.out
    omega
  clear hxs hm
  obtain ⟨n, hn⟩ : ∃ n, xs.length = n := ⟨_, rfl⟩
  have HNn := Lib.hid hn
  rw [hn] at HSc HRg hlen
  clear hn
  have HQ := Lib.hid (And.intro q2 q3)
  clear q2 q3
  have fin : ∀ (q2 : (binOp .neq 9 (.string ⟨t.toArray⟩) (.string ⟨#[]⟩) = pure (.bool false)) ∨ (binOp .neq 9 (.string ⟨t.toArray⟩) (.string ⟨#[]⟩) = pure (.bool true) ∧ binOp .lss 9 (.string ⟨t.toArray⟩) (.string ⟨s.toArray⟩) = pure (.bool false))), Calls Try.prog 8 #[.slice a l.length c, .agg #[.string ⟨s.toArray⟩, .string ⟨t.toArray⟩], .int .i64 k] w (Yes w) := by
    intro hqq
    rcases hqq with q2 | ⟨q2, q3⟩
    · go_enter Try.func8, Try.ntmps8
      go_wp2_with (first
      | (go_at_call 29; refine (HF.out _ (Below.refl _ _)).mono ?_; rintro e V ⟨rfl, rfl⟩)
      | (go_at_call 35; refine (HSh.out _).mono ?_; rintro e V1 ⟨rfl, hb⟩; have H1 := Lib.hid hb; obtain ⟨d0, d1⟩ := HX.out _ hb; clear hb)
        | (go_at_call 36; refine (HM.out _ H1.out).mono ?_; rintro e V2 ⟨b, r, rfl, ho⟩; have H2 := Lib.hid ho; have H2b := Lib.hid (H1.out.trans (ho.low.mono H1.out.size)); obtain ⟨d2, d3⟩ := HX.out _ H2b.out; clear ho)
        | (go_at_call 27; refine (HSc.out _ _ _ _ _ H2.out).mono ?_; rintro e V3 ⟨ga, gc, rfl, hrd, hb⟩; have H3 := Lib.hid (And.intro hrd (And.intro (H2.out.later hb) (H2b.out.trans (hb.mono H2b.out.size)))); obtain ⟨d4, d5⟩ := HX.out _ H3.out.2.2; clear hb hrd)
        | (go_at_call 37; refine (HRg.out _ _ _ _ _ H3.out.2.1).mono ?_; rintro e V4 ⟨wa, wc, rfl, hrd, hb⟩; have H4 := Lib.hid (And.intro (H3.out.1.later hb) (And.intro hrd (H3.out.2.2.trans (hb.mono H3.out.2.2.size)))); clear hb hrd))
      go_loopw [12] (fun i wr => ∃ (j : Nat), j ≤ n ∧ i = .int .i64 j ∧ Hid (Below V4.heap.size V4 wr)) (fun i _ => n - (intOf i).toNat)
      case atStart => exact ⟨0, by omega, rfl, Lib.hid (Below.refl _ _)⟩
      case round =>
        obtain ⟨j, hj, rfl, HJ⟩ := hrel
        by_cases hlt : j < n
        · obtain ⟨p, hp⟩ : ∃ p, xs[j]? = some p := ⟨_, List.getElem?_eq_getElem (by rw [HNn.out]; exact hlt)⟩
          obtain ⟨b1, o1, rfl, x1, x2⟩ := rd_pair (H4.out.1.later HJ.out) hp
          obtain ⟨b2, o2, rfl, x3, x4⟩ := rd_pair (H4.out.2.1.later HJ.out) hp
          have k0 : (0 : Int) ≤ (j : Int) := by omega
          have k1 : (j : Int) < (n : Int) := by omega
          have q5 := str_neq 9 p.1 p.1
          rw [show (p.1 == p.1) = true by simp] at q5
          have q6 := str_neq 9 p.2 p.2
          rw [show (p.2 == p.2) = true by simp] at q6
          clear hp
          go_wp2
          go_quiet (fail)
          go_wp2
          go_roundw
          case rel => exact ⟨j + 1, by omega, by go_num, Lib.hid (HJ.out.trans (below_drewN wr nq |>.mono HJ.out.size))⟩
          case measure => simp [intOf]; omega
        · obtain rfl : j = n := by omega
          go_wp2_with (go_at_call 24; refine (HA.out _).mono ?_; rintro e V5 ⟨rfl, hb⟩; have HB := Lib.hid hb; clear hb)
          go_ret
          have b1 := H4.out.2.2.trans (HJ.out.mono H4.out.2.2.size)
          exact ⟨rfl, HFin.out _ (b1.trans (HB.out.mono b1.size))⟩
    · go_enter Try.func8, Try.ntmps8
      go_wp2_with (first
      | (go_at_call 29; refine (HF.out _ (Below.refl _ _)).mono ?_; rintro e V ⟨rfl, rfl⟩)
      | (go_at_call 35; refine (HSh.out _).mono ?_; rintro e V1 ⟨rfl, hb⟩; have H1 := Lib.hid hb; obtain ⟨d0, d1⟩ := HX.out _ hb; clear hb)
        | (go_at_call 36; refine (HM.out _ H1.out).mono ?_; rintro e V2 ⟨b, r, rfl, ho⟩; have H2 := Lib.hid ho; have H2b := Lib.hid (H1.out.trans (ho.low.mono H1.out.size)); obtain ⟨d2, d3⟩ := HX.out _ H2b.out; clear ho)
        | (go_at_call 27; refine (HSc.out _ _ _ _ _ H2.out).mono ?_; rintro e V3 ⟨ga, gc, rfl, hrd, hb⟩; have H3 := Lib.hid (And.intro hrd (And.intro (H2.out.later hb) (H2b.out.trans (hb.mono H2b.out.size)))); obtain ⟨d4, d5⟩ := HX.out _ H3.out.2.2; clear hb hrd)
        | (go_at_call 37; refine (HRg.out _ _ _ _ _ H3.out.2.1).mono ?_; rintro e V4 ⟨wa, wc, rfl, hrd, hb⟩; have H4 := Lib.hid (And.intro (H3.out.1.later hb) (And.intro hrd (H3.out.2.2.trans (hb.mono H3.out.2.2.size)))); clear hb hrd))
      go_loopw [12] (fun i wr => ∃ (j : Nat), j ≤ n ∧ i = .int .i64 j ∧ Hid (Below V4.heap.size V4 wr)) (fun i _ => n - (intOf i).toNat)
      case atStart => exact ⟨0, by omega, rfl, Lib.hid (Below.refl _ _)⟩
      case round =>
        obtain ⟨j, hj, rfl, HJ⟩ := hrel
        by_cases hlt : j < n
        · obtain ⟨p, hp⟩ : ∃ p, xs[j]? = some p := ⟨_, List.getElem?_eq_getElem (by rw [HNn.out]; exact hlt)⟩
          obtain ⟨b1, o1, rfl, x1, x2⟩ := rd_pair (H4.out.1.later HJ.out) hp
          obtain ⟨b2, o2, rfl, x3, x4⟩ := rd_pair (H4.out.2.1.later HJ.out) hp
          have k0 : (0 : Int) ≤ (j : Int) := by omega
          have k1 : (j : Int) < (n : Int) := by omega
          have q5 := str_neq 9 p.1 p.1
          rw [show (p.1 == p.1) = true by simp] at q5
          have q6 := str_neq 9 p.2 p.2
          rw [show (p.2 == p.2) = true by simp] at q6
          clear hp
          go_wp2
          go_quiet (fail)
          go_wp2
          go_roundw
          case rel => exact ⟨j + 1, by omega, by go_num, Lib.hid (HJ.out.trans (below_drewN wr nq |>.mono HJ.out.size))⟩
          case measure => simp [intOf]; omega
        · obtain rfl : j = n := by omega
          go_wp2_with (go_at_call 24; refine (HA.out _).mono ?_; rintro e V5 ⟨rfl, hb⟩; have HB := Lib.hid hb; clear hb)
          go_ret
          have b1 := H4.out.2.2.trans (HJ.out.mono H4.out.2.2.size)
          exact ⟨rfl, HFin.out _ (b1.trans (HB.out.mono b1.size))⟩
  refine fin ?_
  rcases hq with hq | ⟨hq, hq'⟩
  · have := HQ.out.1
    rw [hq] at this
    exact .inl this
  · have h1 := HQ.out.1
    have h2 := HQ.out.2
    rw [hq] at h1
    rw [hq'] at h2
    exact .inr ⟨h1, h2⟩
end Go.Proofs.Ytbempjkkohjnbaa
