/- Joined: Law24. -/
import Derived.Test.YtbempjkkohjnbaaYLaw23
import Derived.Test.YtbempjkkohjnbaaYRes
/- The laws of package cursor: CursorTwo. -/
namespace Go.Proofs.Ytbempjkkohjnbaa
open Go.RowKit Tr
open Ky (less)
theorem drop_tail {α : Type} (l : List α) (j : Nat) : (l.drop j).tail = l.drop (j + 1) := by rw [List.tail_drop]
theorem nk_drop {l : List Pr} {j : Nat} {p : Pr} (h : l[j]? = some p) : nk (l.drop j) = p.1 ∧ nv (l.drop j) = p.2 ∧ (!(l.drop j).isEmpty) = true := by
  obtain ⟨h1, h2⟩ := List.getElem?_eq_some_iff.1 h
  rw [List.drop_eq_getElem_cons h1, h2]
  exact ⟨rfl, rfl, rfl⟩
theorem nk_end {l : List Pr} {j : Nat} (h : l.length ≤ j) : (!(l.drop j).isEmpty) = false := by
  rw [List.drop_of_length_le h]; rfl
/-- Three cursors of one tree, so many steps on. -/
def Three (w0 : World) (B b c g d : Nat) (s t key : Str) (L xs ys : List Pr) (Y : List Rs) (j : Nat) (V : World) : Prop :=
  ∃ ac ag ad, Own B w0 (CurR c b s t ac :: CurR g b key t ag :: CurR d b s t ad :: TreeR b 2 L :: Y) V ∧ Tr.rng ac t L = ys.drop j ∧ Tr.rng ag t L = ys.drop j ∧ Tr.rng ad t L = xs.drop j
set_option maxHeartbeats 4000000 in
set_option maxRecDepth 100000 in
theorem cursorTwo_walk (a : Option Addr) (c : Nat) (l : List TOp) (s t key : Str) (w : World) (hr : Rd w 3 a l.length c (topsV l)) (hok : ∀ x ∈ l, OkTop x) :
    Calls Try.prog 13 #[.slice a l.length c, .agg #[.string ⟨s.toArray⟩, .string ⟨t.toArray⟩], .string ⟨key.toArray⟩] w (Yes w) := by
  have hcap := hr.cap
  have hle := hr.le
  unfold maxLen at hcap
  have HA := Lib.hid (fun W => awake5_any W)
  obtain ⟨W, hW⟩ : ∃ W, w.alloc (.cells #[.string ⟨s.toArray⟩, .string ⟨t.toArray⟩] 67) = W := ⟨_, rfl⟩
  have hbW : Below w.heap.size w W := by rw [← hW]; exact al1 w _
  have x0 : W.cell? ⟨w.heap.size, 0, none⟩ = some (.string ⟨s.toArray⟩) := by rw [← hW]; simp
  have x1 : W.cell? ⟨w.heap.size, 1, none⟩ = some (.string ⟨t.toArray⟩) := by rw [← hW]; simp
  have HX : Hid (∀ V, Below W.heap.size W V → V.cell? ⟨w.heap.size, 0, none⟩ = some (.string ⟨s.toArray⟩) ∧ V.cell? ⟨w.heap.size, 1, none⟩ = some (.string ⟨t.toArray⟩)) := Lib.hid (fun V hb => ⟨old_cell x0 hb, old_cell x1 hb⟩)
  have HFin : Hid (∀ V, Below W.heap.size W V → Below w.heap.size w V) := Lib.hid (fun V h => hbW.trans (h.mono hbW.size))
  have HF := Lib.hid (fun V (h : Below W.heap.size W V) => few_any a c l (by omega) hok V ((hr.later hbW).later h))
  have HSh := Lib.hid (fun V => short_any s t V)
  by_cases hf : fewL l
  case neg =>
    have hff : decide (fewL l) = false := by simpa using hf
    rw [hff] at HF
    clear hr hok hf hff hbW
    go_enter Try.func13, Try.ntmps13
    go_wp2_with (first
      | (go_at_call 29; refine (HF.out _ (Below.refl _ _)).mono ?_; rintro e V ⟨rfl, rfl⟩)
      | (go_at_call 35; refine (HSh.out _).mono ?_; rintro e V1 ⟨rfl, hb⟩; have H1 := Lib.hid hb; obtain ⟨d0, d1⟩ := HX.out _ hb; clear hb)
      | (go_at_call 24; refine (HA.out _).mono ?_; rintro e V9 ⟨rfl, hb⟩; have HB := Lib.hid hb; clear hb))
    go_ret
    exact ⟨rfl, HFin.out _ HB.out⟩
  have hff : decide (fewL l) = true := by simpa using hf
  have hl := hf.2
  rw [hff] at HF
  by_cases hsh : s.length ≤ 300 ∧ t.length ≤ 300
  case neg =>
    rw [decide_eq_false hsh] at HSh
    clear hr hok hf hff hbW hsh
    go_enter Try.func13, Try.ntmps13
    go_wp2_with (first
      | (go_at_call 29; refine (HF.out _ (Below.refl _ _)).mono ?_; rintro e V ⟨rfl, rfl⟩)
      | (go_at_call 35; refine (HSh.out _).mono ?_; rintro e V1 ⟨rfl, hb⟩; have H1 := Lib.hid hb; obtain ⟨d0, d1⟩ := HX.out _ hb; clear hb)
      | (go_at_call 24; refine (HA.out _).mono ?_; rintro e V9 ⟨rfl, hb⟩; have HB := Lib.hid hb; clear hb))
    go_ret
    exact ⟨rfl, HFin.out _ (H1.out.trans (HB.out.mono H1.out.size))⟩
  rw [decide_eq_true hsh] at HSh
  by_cases hkl : 300 < key.length
  · have hk1 : (300 : Int) < (key.length : Int) := by omega
    clear hr hok hf hff hbW hsh
    go_enter Try.func13, Try.ntmps13
    go_wp2_with (first
      | (go_at_call 29; refine (HF.out _ (Below.refl _ _)).mono ?_; rintro e V ⟨rfl, rfl⟩)
      | (go_at_call 35; refine (HSh.out _).mono ?_; rintro e V1 ⟨rfl, hb⟩; have H1 := Lib.hid hb; obtain ⟨d0, d1⟩ := HX.out _ hb; clear hb)
      | (go_at_call 24; refine (HA.out _).mono ?_; rintro e V9 ⟨rfl, hb⟩; have HB := Lib.hid hb; clear hb))
    go_ret
    exact ⟨rfl, HFin.out _ (H1.out.trans (HB.out.mono H1.out.size))⟩
  have hk1 : ¬ (300 : Int) < (key.length : Int) := by omega
  have HM := Lib.hid (fun V (h : Below W.heap.size W V) => made_any 2 (by omega) (by omega) a c l hl V ((hr.later hbW).later h))
  obtain ⟨L, hL⟩ : ∃ L, runL l = L := ⟨_, rfl⟩
  have HOk : Hid (OkL L) := Lib.hid (by rw [← hL]; exact okL_run l)
  have HLn : Hid (L.length ≤ 200) := Lib.hid (by rw [← hL]; have := run_len l; omega)
  rw [hL] at HM
  clear hr hok hf hff hbW hsh hL
  by_cases hbad : t ≠ [] ∧ less t s = true
  · -- the order is wrong
    have HB2 := Lib.hid (fun b W => newC_bad b s t hbad.1 hbad.2 W)
    clear hbad
    go_enter Try.func13, Try.ntmps13
    go_wp2_with (first
      | (go_at_call 29; refine (HF.out _ (Below.refl _ _)).mono ?_; rintro e V ⟨rfl, rfl⟩)
      | (go_at_call 35; refine (HSh.out _).mono ?_; rintro e V1 ⟨rfl, hb⟩; have H1 := Lib.hid hb; obtain ⟨d0, d1⟩ := HX.out _ hb; clear hb)
      | (go_at_call 36; refine (HM.out _ H1.out).mono ?_; rintro e V2 ⟨b, r, rfl, ho⟩; have H2 := Lib.hid (And.intro ho (H1.out.trans (ho.low.mono H1.out.size))); obtain ⟨d2, d3⟩ := HX.out _ H2.out.2; clear ho)
      | (go_at_call 26; refine (HB2.out _ _).mono ?_; rintro e V3 ⟨rfl, rfl⟩)
      | (go_at_call 24; refine (HA.out _).mono ?_; rintro e V9 ⟨rfl, hb⟩; have HB := Lib.hid hb; clear hb))
    go_ret
    exact ⟨rfl, HFin.out _ (H2.out.2.trans (HB.out.mono H2.out.2.size))⟩
  have HG : Hid (t = [] ∨ less t s = false) := Lib.hid (by
    by_cases h1 : t = []
    · exact .inl h1
    · cases h2 : less t s with
      | true => exact absurd ⟨h1, h2⟩ hbad
      | false => exact .inr rfl)
  clear hbad
  have tok1 : True := trivial
  have tok3 : True := trivial
  have q1 := str_lss 9 key s
  have q2 : binOp .neq 9 (.string ⟨t.toArray⟩) (.string ⟨#[]⟩) = pure (.bool (!(t == []))) := str_neq 9 t []
  have q3 := str_gtr 9 key t
  cases ho : outC s t key with
  | true =>
    have hcase : Op.bytesLess key s = true ∨ (Op.bytesLess key s = false ∧ (t == []) = false ∧ Op.bytesLess t key = true) := by
      unfold outC at ho
      cases h1 : Op.bytesLess key s with
      | true => exact .inl rfl
      | false =>
        refine .inr ⟨rfl, ?_⟩
        have h1' : less key s = false := h1
        rw [h1'] at ho
        simp at ho
        exact ⟨by simpa using ho.1, ho.2⟩
    rcases hcase with h1 | ⟨h1, h2, h3⟩
    · rw [h1] at q1
      clear h1
      go_enter Try.func13, Try.ntmps13
      go_wp2_with (first
      | (go_at_call 29; refine (HF.out _ (Below.refl _ _)).mono ?_; rintro e V ⟨rfl, rfl⟩)
      | (go_at_call 35; refine (HSh.out _).mono ?_; rintro e V1 ⟨rfl, hb⟩; have H1 := Lib.hid hb; obtain ⟨d0, d1⟩ := HX.out _ hb; clear hb)
      | (go_at_call 36; refine (HM.out _ H1.out).mono ?_; rintro e V2 ⟨b, r, rfl, ho⟩; have H2 := Lib.hid (And.intro ho (H1.out.trans (ho.low.mono H1.out.size))); obtain ⟨d2, d3⟩ := HX.out _ H2.out.2; clear ho)
      | (go_at_call 26; have _t := tok1; refine (own_curNew s t HG.out H2.out.1).mono ?_; rintro e V3 ⟨c, rfl, h3⟩; have H3 := Lib.hid (And.intro h3 (H1.out.trans (h3.low.mono H1.out.size))); obtain ⟨d4, d5⟩ := HX.out _ H3.out.2; clear h3 tok1 _t)
      | (go_at_call 26; have _t := tok3; refine (own_curNew s t HG.out H3.out.1).mono ?_; rintro e V4 ⟨d, rfl, h4⟩; have H4 := Lib.hid (And.intro h4 (H1.out.trans (h4.low.mono H1.out.size))); obtain ⟨d6, d7⟩ := HX.out _ H4.out.2; clear h4 tok3 _t)
      | (go_at_call 28; refine (own_seek_bad H4.out.1.swap ho).mono ?_; rintro e V5 ⟨rfl, rfl⟩)
      | (go_at_call 24; refine (HA.out _).mono ?_; rintro e V9 ⟨rfl, hb⟩; have HB := Lib.hid hb; clear hb))
      go_ret
      exact ⟨rfl, HFin.out _ (H4.out.2.trans (HB.out.mono H4.out.2.size))⟩
    · rw [h1] at q1
      rw [h2] at q2
      rw [h3] at q3
      clear h1 h2 h3
      go_enter Try.func13, Try.ntmps13
      go_wp2_with (first
      | (go_at_call 29; refine (HF.out _ (Below.refl _ _)).mono ?_; rintro e V ⟨rfl, rfl⟩)
      | (go_at_call 35; refine (HSh.out _).mono ?_; rintro e V1 ⟨rfl, hb⟩; have H1 := Lib.hid hb; obtain ⟨d0, d1⟩ := HX.out _ hb; clear hb)
      | (go_at_call 36; refine (HM.out _ H1.out).mono ?_; rintro e V2 ⟨b, r, rfl, ho⟩; have H2 := Lib.hid (And.intro ho (H1.out.trans (ho.low.mono H1.out.size))); obtain ⟨d2, d3⟩ := HX.out _ H2.out.2; clear ho)
      | (go_at_call 26; have _t := tok1; refine (own_curNew s t HG.out H2.out.1).mono ?_; rintro e V3 ⟨c, rfl, h3⟩; have H3 := Lib.hid (And.intro h3 (H1.out.trans (h3.low.mono H1.out.size))); obtain ⟨d4, d5⟩ := HX.out _ H3.out.2; clear h3 tok1 _t)
      | (go_at_call 26; have _t := tok3; refine (own_curNew s t HG.out H3.out.1).mono ?_; rintro e V4 ⟨d, rfl, h4⟩; have H4 := Lib.hid (And.intro h4 (H1.out.trans (h4.low.mono H1.out.size))); obtain ⟨d6, d7⟩ := HX.out _ H4.out.2; clear h4 tok3 _t)
      | (go_at_call 28; refine (own_seek_bad H4.out.1.swap ho).mono ?_; rintro e V5 ⟨rfl, rfl⟩)
      | (go_at_call 24; refine (HA.out _).mono ?_; rintro e V9 ⟨rfl, hb⟩; have HB := Lib.hid hb; clear hb))
      go_ret
      exact ⟨rfl, HFin.out _ (H4.out.2.trans (HB.out.mono H4.out.2.size))⟩
  | false =>
    have HG2 : Hid (t = [] ∨ less t key = false) := Lib.hid (by
      unfold outC at ho
      by_cases h1 : t = []
      · exact .inl h1
      · refine .inr ?_
        cases h2 : less t key with
        | false => rfl
        | true => simp [h1, h2] at ho)
    obtain ⟨xs, hxs⟩ : ∃ xs, Tr.rng s t L = xs := ⟨_, rfl⟩
    obtain ⟨ys, hys⟩ : ∃ ys, Tr.rng key t L = ys := ⟨_, rfl⟩
    obtain ⟨N, hN⟩ : ∃ N, xs.length = N := ⟨_, rfl⟩
    have hN2 : N ≤ 200 := by rw [← hN, ← hxs]; exact Nat.le_trans (rng_len s t L) HLn.out
    have HXY := Lib.hid (And.intro hxs (And.intro hys hN))
    have HKs := Lib.hid (okL_short HOk.out)
    have HSc := Lib.hid (fun (B : Nat) (w0 V : World) (b r cc g d : Nat) (ac ag ad : Str) (h : Own B w0 [CurR cc b s t ac, CurR g b key t ag, CurR d b s t ad, TreeR b 2 L, LstR r L] V) => (by
      have := own_scan' s t 1000 HG.out h (X' := [CurR cc b s t ac, CurR g b key t ag, CurR d b s t ad, LstR r L]) perm5 HKs.out (by have := HLn.out; omega) (by have := HLn.out; omega)
      rw [hxs, hN] at this
      exact this : Calls Try.prog 27 #[ptrV b, .string ⟨s.toArray⟩, .string ⟨t.toArray⟩, .int .i64 1000] V fun e V2 => ∃ (a : Option Addr) (c : Nat), e = .returned (.tuple #[.slice a N c, .int .i64 0]) ∧ Own B w0 (SlR 2 a N c (pairsV xs) :: [CurR cc b s t ac, CurR g b key t ag, CurR d b s t ad, TreeR b 2 L, LstR r L]) V2))
    clear q1 q2 q3 hxs hys hN
    go_enter Try.func13, Try.ntmps13
    go_wp2_with (first
      | (go_at_call 29; refine (HF.out _ (Below.refl _ _)).mono ?_; rintro e V ⟨rfl, rfl⟩)
      | (go_at_call 35; refine (HSh.out _).mono ?_; rintro e V1 ⟨rfl, hb⟩; have H1 := Lib.hid hb; obtain ⟨d0, d1⟩ := HX.out _ hb; clear hb)
      | (go_at_call 36; refine (HM.out _ H1.out).mono ?_; rintro e V2 ⟨b, r, rfl, ho⟩; have H2 := Lib.hid (And.intro ho (H1.out.trans (ho.low.mono H1.out.size))); obtain ⟨d2, d3⟩ := HX.out _ H2.out.2; clear ho)
      | (go_at_call 26; have _t := tok1; refine (own_curNew s t HG.out H2.out.1).mono ?_; rintro e V3 ⟨c, rfl, h3⟩; have H3 := Lib.hid (And.intro h3 (H1.out.trans (h3.low.mono H1.out.size))); obtain ⟨d4, d5⟩ := HX.out _ H3.out.2; clear h3 tok1 _t)
      | (go_at_call 26; have _t := tok3; refine (own_curNew s t HG.out H3.out.1).mono ?_; rintro e V4 ⟨d, rfl, h4⟩; have H4 := Lib.hid (And.intro h4 (H1.out.trans (h4.low.mono H1.out.size))); obtain ⟨d6, d7⟩ := HX.out _ H4.out.2; clear h4 tok3 _t)
      | (go_at_call 28; refine (own_seek H4.out.1.swap ho).mono ?_; rintro e V5 ⟨rfl, h5⟩; have H5 := Lib.hid (And.intro h5 (H1.out.trans (h5.low.mono H1.out.size))); obtain ⟨d8, d9⟩ := HX.out _ H5.out.2; clear h5)
      | (go_at_call 26; refine (own_curNew key t HG2.out H5.out.1).mono ?_; rintro e V6 ⟨g, rfl, h6⟩; have H6 := Lib.hid (And.intro h6.swap (H1.out.trans (h6.low.mono H1.out.size))); obtain ⟨da, db⟩ := HX.out _ H6.out.2; clear h6)
      | (go_at_call 27; refine (HSc.out _ _ _ _ _ _ _ _ _ _ _ H6.out.1).mono ?_; rintro e V7 ⟨ga, gc, rfl, h7⟩; have H7 := Lib.hid (And.intro (h7.perm (List.perm_append_singleton _ _).symm) (H1.out.trans (h7.low.mono H1.out.size))); clear h7))
    have H8 : Hid (Three V1 V1.heap.size b c g d s t key L xs ys [LstR r L, SlR 2 ga N gc (pairsV xs)] 0 V7) := Lib.hid ⟨key, key, s, H7.out.1, HXY.out.2.1, HXY.out.2.1, HXY.out.1⟩
    obtain ⟨Y, hY⟩ : ∃ Y, [LstR r L, SlR 2 ga N gc (pairsV xs)] = Y := ⟨_, rfl⟩
    have HRd : Hid (∀ V B w0 ac ag ad, Own B w0 (CurR c b s t ac :: CurR g b key t ag :: CurR d b s t ad :: TreeR b 2 L :: Y) V → Rd V 2 ga N gc (pairsV xs)) := Lib.hid (fun V B w0 ac ag ad h => by
      rw [← hY] at h
      exact own_rd (h.perm (List.perm_append_singleton _ [CurR c b s t ac, CurR g b key t ag, CurR d b s t ad, TreeR b 2 L, LstR r L])))
    rw [hY] at H8
    clear hY
    go_loopw [17] (fun i wr => ∃ (j : Nat), j ≤ N + 1 ∧ i = .int .i64 j ∧ Hid (Three V1 V1.heap.size b c g d s t key L xs ys Y j wr)) (fun i _ => N + 1 - (intOf i).toNat)
    case atStart => exact ⟨0, by omega, rfl, H8⟩
    case round =>
      obtain ⟨j, hj, rfl, HJ⟩ := hrel
      by_cases hjN : j ≤ N
      · have k1 : (j : Int) ≤ (N : Int) := by omega
        have k0 : (0 : Int) ≤ (j : Int) := by omega
        obtain ⟨ac, ag, ad, ho, e1, e2, e3⟩ := HJ.out
        have HC1 := Lib.hid (own_next ho permT e1 HKs.out)
        have HC2 := Lib.hid (fun V B w0 ac h => own_next (B := B) (w0 := w0) (w := V) (X := CurR c b s t ac :: CurR d b s t ad :: TreeR b 2 L :: Y) (c := g) (s := key) h permT e2 HKs.out)
        have HC3 := Lib.hid (fun V B w0 ac ag h => own_next (B := B) (w0 := w0) (w := V) (X := CurR g b key t ag :: CurR c b s t ac :: TreeR b 2 L :: Y) (c := d) (s := s) h permT e3 HKs.out)
        obtain ⟨nc, hnc⟩ : ∃ x, nk (ys.drop j) = x := ⟨_, rfl⟩
        obtain ⟨vc, hvc⟩ : ∃ x, nv (ys.drop j) = x := ⟨_, rfl⟩
        obtain ⟨bc, hbc⟩ : ∃ x, (!(ys.drop j).isEmpty) = x := ⟨_, rfl⟩
        rw [hnc, hvc, hbc] at HC1 HC2
        have q1 := str_neq 9 nc nc
        rw [show (nc == nc) = true by simp] at q1
        have q2 := str_neq 9 vc vc
        rw [show (vc == vc) = true by simp] at q2
        have t1 : True := trivial
        have t2 : True := trivial
        clear ho e1 e2 e3 hnc hvc hbc
        by_cases hlt : j < N
        · obtain ⟨p, hp⟩ : ∃ p, xs[j]? = some p := ⟨_, List.getElem?_eq_getElem (by rw [HXY.out.2.2]; exact hlt)⟩
          obtain ⟨n1, n2, n3⟩ := nk_drop hp
          rw [n1, n2, n3] at HC3
          have k2 : (j : Int) < (N : Int) := by omega
          have hd : decide ((j : Int) < (N : Int)) = true := decide_eq_true k2
          have q3 := str_neq 9 p.1 p.1
          rw [show (p.1 == p.1) = true by simp] at q3
          have q4 := str_neq 9 p.2 p.2
          rw [show (p.2 == p.2) = true by simp] at q4
          have HP := Lib.hid hp
          clear n1 n2 n3 hp
          go_wp2_with (first
            | (go_at_call 25; have _t := t1; refine HC1.out.mono ?_; rintro e V8 ⟨rfl, ac', h8, e8⟩; have H8 := Lib.hid (And.intro h8.swap e8); clear h8 e8 t1 _t)
            | (go_at_call 25; have _t := t2; refine (HC2.out _ _ _ _ H8.out.1).mono ?_; rintro e V9 ⟨rfl, ag', h9, e9⟩; have H9 := Lib.hid (And.intro h9.third e9); clear h9 e9 t2 _t)
            | (go_at_call 25; refine (HC3.out _ _ _ _ _ H9.out.1).mono ?_; rintro e V10 ⟨rfl, ad', h10, e10⟩; have HE : Hid (Three V1 V1.heap.size b c g d s t key L xs ys Y (j + 1) V10) := Lib.hid ⟨ac', ag', ad', h10.rot3.swap, by rw [H8.out.2, drop_tail], by rw [H9.out.2, drop_tail], by rw [e10, drop_tail]⟩; obtain ⟨xb, xo, hga, x1, x2⟩ := rd_pair (HRd.out _ _ _ _ _ _ h10.rot3.swap) HP.out; subst hga; clear h10 e10))
          go_roundw
          case rel => exact ⟨j + 1, by omega, by go_num, HE⟩
          case measure => simp [intOf]; omega
        · obtain rfl : j = N := by omega
          rw [nk_end (l := xs) (j := j) (by rw [HXY.out.2.2]; exact Nat.le_refl _)] at HC3
          have k2 : ¬ (j : Int) < (j : Int) := by omega
          have hd : decide ((j : Int) < (j : Int)) = false := decide_eq_false k2
          go_wp2_with (first
            | (go_at_call 25; have _t := t1; refine HC1.out.mono ?_; rintro e V8 ⟨rfl, ac', h8, e8⟩; have H8 := Lib.hid (And.intro h8.swap e8); clear h8 e8 t1 _t)
            | (go_at_call 25; have _t := t2; refine (HC2.out _ _ _ _ H8.out.1).mono ?_; rintro e V9 ⟨rfl, ag', h9, e9⟩; have H9 := Lib.hid (And.intro h9.third e9); clear h9 e9 t2 _t)
            | (go_at_call 25; refine (HC3.out _ _ _ _ _ H9.out.1).mono ?_; rintro e V10 ⟨rfl, ad', h10, e10⟩; have HE : Hid (Three V1 V1.heap.size b c g d s t key L xs ys Y (j + 1) V10) := Lib.hid ⟨ac', ag', ad', h10.rot3.swap, by rw [H8.out.2, drop_tail], by rw [H9.out.2, drop_tail], by rw [e10, drop_tail]⟩; clear h10 e10))
          go_roundw
          case rel => exact ⟨j + 1, by omega, by go_num, HE⟩
          case measure => (simp [intOf] <;> omega)
      · obtain rfl : j = N + 1 := by omega
        have k1 : ¬ ((N + 1 : Nat) : Int) ≤ (N : Int) := by omega
        have k2 : ¬ (N : Int) + 1 ≤ (N : Int) := by omega
        go_wp2_with (go_at_call 24; refine (HA.out _).mono ?_; rintro e V9 ⟨rfl, hb⟩; have HB := Lib.hid hb; clear hb)
        go_ret
        obtain ⟨ac, ag, ad, ho, _⟩ := HJ.out
        have b1 := H1.out.trans (ho.low.mono H1.out.size)
        exact ⟨rfl, HFin.out _ (b1.trans (HB.out.mono b1.size))⟩
end Go.Proofs.Ytbempjkkohjnbaa
