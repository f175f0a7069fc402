/- Joined: Law42. -/
import Derived.Test.YtbempjkkohjnbaaYLaw41
import Derived.Test.YtbempjkkohjnbaaYLaw24
/- The laws of package cursor: CursorWhole. -/
namespace Go.Proofs.Ytbempjkkohjnbaa
open Go.RowKit Tr
open Ky (less)
attribute [local go_sem] Oper.semAt_some
theorem permW {C S T R : Rs} : [C, S, T, R].Perm [T, S, C, R] := (List.Perm.cons C (.swap T S [R])).trans ((List.Perm.swap T C [S, R]).trans (List.Perm.cons T (.swap S C [R])))
set_option maxHeartbeats 8000000 in
set_option maxRecDepth 100000 in
theorem cursorWhole_walk (a : Option Addr) (c : Nat) (l : List TOp) (s t mid : Str) (w : World) (hr : Rd w 3 a l.length c (topsV l)) (hok : ∀ x ∈ l, OkTop x) :
    Calls Try.prog 16 #[.slice a l.length c, .agg #[.string ⟨s.toArray⟩, .string ⟨t.toArray⟩], .string ⟨mid.toArray⟩] w (Yes w) := by
  have hcap := hr.cap
  have hle := hr.le
  unfold maxLen at hcap
  have HA := Lib.hid (fun W => awake5_any W)
  obtain ⟨W, hW⟩ : ∃ W, w.alloc (.cells #[.string ⟨s.toArray⟩, .string ⟨t.toArray⟩] 67) = W := ⟨_, rfl⟩
  have hbW : Below w.heap.size w W := by rw [← hW]; exact al1 w _
  have hsW : W.heap.size = w.heap.size + 1 := by rw [← hW]; simp
  have x0 : W.cell? ⟨w.heap.size, 0, none⟩ = some (.string ⟨s.toArray⟩) := by rw [← hW]; simp
  have x1 : W.cell? ⟨w.heap.size, 1, none⟩ = some (.string ⟨t.toArray⟩) := by rw [← hW]; simp
  have HX : Hid (∀ V, Below W.heap.size W V → V.cell? ⟨w.heap.size, 0, none⟩ = some (.string ⟨s.toArray⟩) ∧ V.cell? ⟨w.heap.size, 1, none⟩ = some (.string ⟨t.toArray⟩)) := Lib.hid (fun V hb => ⟨old_cell x0 hb, old_cell x1 hb⟩)
  have HFin : Hid (∀ V, Below W.heap.size W V → Below w.heap.size w V) := Lib.hid (fun V h => hbW.trans (h.mono hbW.size))
  have HF := Lib.hid (fun V (h : Below W.heap.size W V) => few_any a c l (by omega) hok V ((hr.later hbW).later h))
  have HSh := Lib.hid (fun V => short_any s t V)
  by_cases hf : fewL l
  case neg =>
    have hff : decide (fewL l) = false := by simpa using hf
    rw [hff] at HF
    clear hr hok hf hff hbW hsW
    refine calls_marks Try.func16 rfl ?_
    simp only [Try.ntmps16, List.size_toArray, List.length_cons, List.length_nil, Nat.reduceAdd, Nat.reduceSub, Array.replicate_succ, Array.replicate_zero, List.push_toArray, List.append_toArray, List.nil_append, List.cons_append]
    refine wpIn_wide.2 ?_
    go_wp2_with (first
      | (go_at_call 29; refine (HF.out _ (Below.refl _ _)).mono ?_; rintro e V ⟨rfl, rfl⟩)
      | (go_at_call 35; refine (HSh.out _).mono ?_; rintro e V1 ⟨rfl, hb⟩; have H1 := Lib.hid hb; obtain ⟨d0, d1⟩ := HX.out _ hb; clear hb)
      | (go_at_call 24; refine (HA.out _).mono ?_; rintro e V9 ⟨rfl, hb⟩; have HB := Lib.hid hb; clear hb))
    exact leave_none ⟨_, results_tmp rfl _ _ _, rfl, HFin.out _ (HB.out)⟩
  have hff : decide (fewL l) = true := by simpa using hf
  have hl := hf.2
  rw [hff] at HF
  by_cases hsh : s.length ≤ 300 ∧ t.length ≤ 300
  case neg =>
    rw [decide_eq_false hsh] at HSh
    clear hr hok hf hff hbW hsh hsW
    refine calls_marks Try.func16 rfl ?_
    simp only [Try.ntmps16, List.size_toArray, List.length_cons, List.length_nil, Nat.reduceAdd, Nat.reduceSub, Array.replicate_succ, Array.replicate_zero, List.push_toArray, List.append_toArray, List.nil_append, List.cons_append]
    refine wpIn_wide.2 ?_
    go_wp2_with (first
      | (go_at_call 29; refine (HF.out _ (Below.refl _ _)).mono ?_; rintro e V ⟨rfl, rfl⟩)
      | (go_at_call 35; refine (HSh.out _).mono ?_; rintro e V1 ⟨rfl, hb⟩; have H1 := Lib.hid hb; obtain ⟨d0, d1⟩ := HX.out _ hb; clear hb)
      | (go_at_call 24; refine (HA.out _).mono ?_; rintro e V9 ⟨rfl, hb⟩; have HB := Lib.hid hb; clear hb))
    exact leave_none ⟨_, results_tmp rfl _ _ _, rfl, HFin.out _ (H1.out.trans (HB.out.mono H1.out.size))⟩
  rw [decide_eq_true hsh] at HSh
  have HM := Lib.hid (fun V (h : Below W.heap.size W V) => made_any 2 (by omega) (by omega) a c l hl V ((hr.later hbW).later h))
  obtain ⟨L, hL⟩ : ∃ L, runL l = L := ⟨_, rfl⟩
  have HOk : Hid (OkL L) := Lib.hid (by rw [← hL]; exact okL_run l)
  have HLn : Hid (L.length ≤ 200) := Lib.hid (by rw [← hL]; have := run_len l; omega)
  rw [hL] at HM
  have HsW := Lib.hid hsW
  have q2 : binOp .neq 9 (.string ⟨t.toArray⟩) (.string ⟨#[]⟩) = pure (.bool (!(t == []))) := str_neq 9 t []
  clear hr hok hf hff hbW hsh hL hsW
  by_cases hbad : t ≠ [] ∧ less t s = true
  · have HB2 := Lib.hid (fun b W => newC_bad b s t hbad.1 hbad.2 W)
    have HB3 := Lib.hid (fun b W => scan_bad b s t 1000 hbad.1 hbad.2 W)
    simp only [scanBad] at HB3
    clear hbad
    refine calls_marks Try.func16 rfl ?_
    simp only [Try.ntmps16, List.size_toArray, List.length_cons, List.length_nil, Nat.reduceAdd, Nat.reduceSub, Array.replicate_succ, Array.replicate_zero, List.push_toArray, List.append_toArray, List.nil_append, List.cons_append]
    refine wpIn_wide.2 ?_
    go_wp2_with (first
      | (go_at_call 29; refine (HF.out _ (Below.refl _ _)).mono ?_; rintro e V ⟨rfl, rfl⟩)
      | (go_at_call 35; refine (HSh.out _).mono ?_; rintro e V1 ⟨rfl, hb⟩; have H1 := Lib.hid hb; obtain ⟨d0, d1⟩ := HX.out _ hb; clear hb)
      | (go_at_call 36; refine (HM.out _ H1.out).mono ?_; rintro e V2 ⟨b, r, rfl, ho⟩; have H2 := Lib.hid (And.intro ho (H1.out.trans (ho.low.mono H1.out.size))); obtain ⟨d2, d3⟩ := HX.out _ H2.out.2; clear ho)
      | (go_at_call 26; refine (HB2.out _ _).mono ?_; rintro e V3 ⟨rfl, rfl⟩)
      | (go_at_call 27; refine (HB3.out _ _).mono ?_; rintro e V4 ⟨rfl, hb⟩; have H4 := Lib.hid (H2.out.2.trans (hb.mono H2.out.2.size)); clear hb)
      | (go_at_call 24; refine (HA.out _).mono ?_; rintro e V9 ⟨rfl, hb⟩; have HB := Lib.hid hb; clear hb))
    exact leave_none ⟨_, results_tmp rfl _ _ _, rfl, HFin.out _ (H4.out.trans (HB.out.mono H4.out.size))⟩
  have HG : Hid (t = [] ∨ less t s = false) := Lib.hid (by
    by_cases h1 : t = []
    · exact .inl h1
    · cases h2 : less t s with
      | true => exact absurd ⟨h1, h2⟩ hbad
      | false => exact .inr rfl)
  clear hbad
  have HSc := Lib.hid (fun (B b g r : Nat) (w0 : World) (V : World) (h : Own B w0 [CurR g b s t s, TreeR b 2 L, LstR r L] V) => own_scan' s t 1000 HG.out h (.swap _ _ _) (okL_short HOk.out) (by have := HLn.out; omega) (by have := HLn.out; omega))
  refine calls_marks Try.func16 rfl ?_
  simp only [Try.ntmps16, List.size_toArray, List.length_cons, List.length_nil, Nat.reduceAdd, Nat.reduceSub, Array.replicate_succ, Array.replicate_zero, List.push_toArray, List.append_toArray, List.nil_append, List.cons_append]
  refine wpIn_wide.2 ?_
  go_wp2_with (first
    | (go_at_call 29; refine (HF.out _ (Below.refl _ _)).mono ?_; rintro e V ⟨rfl, rfl⟩)
    | (go_at_call 35; refine (HSh.out _).mono ?_; rintro e V1 ⟨rfl, hb⟩; have H1 := Lib.hid hb; obtain ⟨d0, d1⟩ := HX.out _ hb; clear hb)
    | (go_at_call 36; refine (HM.out _ H1.out).mono ?_; rintro e V2 ⟨b, r, rfl, ho⟩; have H2 := Lib.hid (And.intro ho (H1.out.trans (ho.low.mono H1.out.size))); obtain ⟨d2, d3⟩ := HX.out _ H2.out.2; clear ho)
    | (go_at_call 26; refine (own_curNew s t HG.out H2.out.1).mono ?_; rintro e V3 ⟨g, rfl, h3⟩; have H3 := Lib.hid (And.intro h3 (H1.out.trans (h3.low.mono H1.out.size))); obtain ⟨d4, d5⟩ := HX.out _ H3.out.2; clear h3)
    | (go_at_call 27; refine (HSc.out _ _ _ _ _ _ H3.out.1).mono ?_; rintro e V4 ⟨aa, cc, rfl, h4⟩; have H4 := Lib.hid (And.intro h4.swap (H1.out.trans (h4.low.mono H1.out.size))); obtain ⟨d6, d7⟩ := HX.out _ H4.out.2; clear h4))
  obtain ⟨R, hR⟩ : ∃ R, Tr.rng s t L = R := ⟨_, rfl⟩
  rw [hR] at H4 ⊢
  have HR := Lib.hid hR
  have HRo := Lib.hid (rng_of hR)
  have HSo : Hid (Sorted L) := Lib.hid (own_sorted (H4.out.1.perm permW))
  have HRs : Hid (Sorted R) := Lib.hid (by rw [← hR]; exact rng_sorted HSo.out)
  obtain ⟨N, hN⟩ : ∃ N, R.length = N := ⟨_, rfl⟩
  have HNl := Lib.hid hN
  have hNb : N ≤ 200 := by rw [← hN, ← hR]; exact Nat.le_trans (rng_len s t L) HLn.out
  rw [hN] at H4 ⊢
  clear hR hN d0 d1 d2 d3 d4 d5 d6 d7
  go_loopw [13] (fun i wr => ∃ (j : Nat), j ≤ N + 1 ∧ i = .int .i64 j ∧ Hid (∃ ac, Own V1.heap.size V1 [CurR g b s t ac, SlR 2 aa N cc (pairsV R), TreeR b 2 L, LstR r L] wr ∧ Tr.rng ac t L = R.drop j)) (fun i _ => N + 1 - (intOf i).toNat)
  case atStart => exact ⟨0, by omega, rfl, Lib.hid ⟨s, H4.out.1, HR.out⟩⟩
  case round =>
    obtain ⟨j, hj, rfl, HJ⟩ := hrel
    have k0 : (0 : Int) ≤ (j : Int) := by omega
    by_cases hle1 : j ≤ N
    · have k1 : (j : Int) ≤ (N : Int) := by omega
      obtain ⟨ac, ho, hrn⟩ := HJ.out
      have HN := Lib.hid (own_next ho (.swap _ _ _) hrn (okL_short HOk.out))
      clear ho hrn
      by_cases hlt : j < N
      · have k2 : (j : Int) < (N : Int) := by omega
        have hd : decide ((j : Int) < (N : Int)) = true := decide_eq_true k2
        obtain ⟨x, hx⟩ : ∃ x, R[j]? = some x := ⟨_, List.getElem?_eq_getElem (by rw [HNl.out]; exact hlt)⟩
        obtain ⟨n1, n2, n3⟩ := nk_drop hx
        rw [n1, n2, n3] at HN
        have HP := Lib.hid hx
        obtain ⟨r1, r2⟩ := HRo.out x (List.mem_of_getElem? hx)
        have p1 := str_neq 9 x.1 x.1
        rw [show (x.1 == x.1) = true by simp] at p1
        have p2 := str_neq 9 x.2 x.2
        rw [show (x.2 == x.2) = true by simp] at p2
        have p3 := str_lss 9 x.1 s
        rw [show Op.bytesLess x.1 s = false from r1] at p3
        have hcase : (t == []) = true ∨ ((t == []) = false ∧ less x.1 t = true) := by
          cases ht : t == [] with
          | true => exact .inl rfl
          | false => exact .inr ⟨rfl, r2.resolve_left (by simpa using ht)⟩
        clear n1 n2 n3 r1 r2 hx
        cases j with
        | zero =>
          rcases hcase with h1 | ⟨h1, h2⟩
          · rw [h1] at q2
            clear h1
            go_wp2_with (go_at_call 25; refine HN.out.mono ?_; rintro e V5 ⟨rfl, ac2, h5, e5⟩; have H5 := Lib.hid (And.intro h5 e5); obtain ⟨d8, d9⟩ := HX.out _ (H1.out.trans (h5.low.mono H1.out.size)); obtain ⟨xb, xo, hga, x1, x2⟩ := rd_pair (own_rd h5.swap) HP.out; rw [Nat.zero_mul, Nat.add_zero] at x1 x2; subst hga; clear h5 e5)
            go_roundw
            case rel => exact ⟨0 + 1, by omega, by go_num, Lib.hid ⟨ac2, H5.out.1, by rw [H5.out.2, drop_tail]⟩⟩
            case measure => (simp [intOf] <;> omega)
          · rw [h1] at q2
            have p4 := str_geq 9 x.1 t
            rw [show Op.bytesLess x.1 t = true from h2] at p4
            clear h1 h2
            go_wp2_with (go_at_call 25; refine HN.out.mono ?_; rintro e V5 ⟨rfl, ac2, h5, e5⟩; have H5 := Lib.hid (And.intro h5 e5); obtain ⟨d8, d9⟩ := HX.out _ (H1.out.trans (h5.low.mono H1.out.size)); obtain ⟨xb, xo, hga, x1, x2⟩ := rd_pair (own_rd h5.swap) HP.out; rw [Nat.zero_mul, Nat.add_zero] at x1 x2; subst hga; clear h5 e5)
            go_roundw
            case rel => exact ⟨0 + 1, by omega, by go_num, Lib.hid ⟨ac2, H5.out.1, by rw [H5.out.2, drop_tail]⟩⟩
            case measure => (simp [intOf] <;> omega)
        | succ i =>
          obtain ⟨y, hy⟩ : ∃ y, R[i]? = some y := ⟨_, List.getElem?_eq_getElem (by rw [HNl.out]; omega)⟩
          have HPy := Lib.hid hy
          have p5 := str_leq 9 x.1 y.1 (sorted_next HRs.out hy HP.out)
          have k4 : (0 : Int) < ((i + 1 : Nat) : Int) := by omega
          have k5 : (0 : Int) < (i : Int) + 1 := by omega
          clear hy
          rcases hcase with h1 | ⟨h1, h2⟩
          · rw [h1] at q2
            clear h1
            go_wp2_with (go_at_call 25; refine HN.out.mono ?_; rintro e V5 ⟨rfl, ac2, h5, e5⟩; have H5 := Lib.hid (And.intro h5 e5); obtain ⟨d8, d9⟩ := HX.out _ (H1.out.trans (h5.low.mono H1.out.size)); obtain ⟨xb, xo, hga, x1, x2⟩ := rd_pair (own_rd h5.swap) HP.out; obtain ⟨xb2, xo2, hgb, x3, _⟩ := rd_pair (own_rd h5.swap) HPy.out; rw [hga] at hgb; cases hgb; subst hga; clear h5 e5)
            go_roundw
            case rel => exact ⟨i + 1 + 1, by omega, by go_num, Lib.hid ⟨ac2, H5.out.1, by rw [H5.out.2, drop_tail]⟩⟩
            case measure => (simp [intOf] <;> omega)
          · rw [h1] at q2
            have p4 := str_geq 9 x.1 t
            rw [show Op.bytesLess x.1 t = true from h2] at p4
            clear h1 h2
            go_wp2_with (go_at_call 25; refine HN.out.mono ?_; rintro e V5 ⟨rfl, ac2, h5, e5⟩; have H5 := Lib.hid (And.intro h5 e5); obtain ⟨d8, d9⟩ := HX.out _ (H1.out.trans (h5.low.mono H1.out.size)); obtain ⟨xb, xo, hga, x1, x2⟩ := rd_pair (own_rd h5.swap) HP.out; obtain ⟨xb2, xo2, hgb, x3, _⟩ := rd_pair (own_rd h5.swap) HPy.out; rw [hga] at hgb; cases hgb; subst hga; clear h5 e5)
            go_roundw
            case rel => exact ⟨i + 1 + 1, by omega, by go_num, Lib.hid ⟨ac2, H5.out.1, by rw [H5.out.2, drop_tail]⟩⟩
            case measure => (simp [intOf] <;> omega)
      · obtain rfl : j = N := by omega
        rw [nk_end (l := R) (j := j) (by rw [HNl.out]; exact Nat.le_refl _)] at HN
        have k2 : ¬ (j : Int) < (j : Int) := by omega
        have hd : decide ((j : Int) < (j : Int)) = false := decide_eq_false k2
        go_wp2_with (go_at_call 25; refine HN.out.mono ?_; rintro e V5 ⟨rfl, ac2, h5, e5⟩; have H5 := Lib.hid (And.intro h5 e5); clear h5 e5)
        go_roundw
        case rel => exact ⟨j + 1, by omega, by go_num, Lib.hid ⟨ac2, H5.out.1, by rw [H5.out.2, drop_tail]⟩⟩
        case measure => (simp [intOf] <;> omega)
    · obtain rfl : j = N + 1 := by omega
      have k1 : ¬ ((N + 1 : Nat) : Int) ≤ (N : Int) := by omega
      have k2 : ¬ (N : Int) + 1 ≤ (N : Int) := by omega
      obtain ⟨ac, ho, _⟩ := HJ.out
      have HO : Hid (Own V1.heap.size V1 [TreeR b 2 L, SlR 2 aa N cc (pairsV R)] wr) := Lib.hid (by
        have h := ho.drop
        have h2 : Own V1.heap.size V1 [LstR r L, TreeR b 2 L, SlR 2 aa N cc (pairsV R)] wr := h.perm ((List.reverse_perm _).symm)
        exact h2.drop)
      clear ho
      have HAll := Lib.hid (own_all HO.out (by have := HLn.out; omega))
      have q0 := fun x y w => eql_func_nil Try.underlying35 (.func 46) x y w
      go_wp2_with (go_at_call 20; refine HAll.out.mono ?_; rintro e V ⟨Bx, a2, c2, rfl, g1, g2, g3⟩; have HV := Lib.hid (And.intro g1 (And.intro g2 g3)); clear g1 g2 g3)
      obtain ⟨u, hu⟩ : ∃ u, V.heap.size = u := ⟨_, rfl⟩
      obtain ⟨W0, hW0⟩ : ∃ W0, V.alloc (.cells #[.int .i64 0] 3) = W0 := ⟨_, rfl⟩
      have HU := Lib.hid hu
      have HW : Hid (W0.heap.size = u + 1 ∧ W0.cell? ⟨u, 0, none⟩ = some (.int .i64 0) ∧ W0.frozen? ⟨u, 0, none⟩ = false ∧ Below V.heap.size V W0) := Lib.hid (by
        refine ⟨by rw [← hW0, ← hu]; simp, by rw [← hW0, ← hu]; simp, by rw [← hW0, ← hu]; simp, by rw [← hW0]; exact al1 V _⟩)
      have HRR : Hid (∀ k, (k = Bx ∨ (L ≠ [] ∧ ∃ x, a2 = some x ∧ k = x.block)) → k < u) := Lib.hid (fun k hk => by
        obtain ⟨k1, k2, k3⟩ := HV.out
        have h1 := block_of_cell k1
        have hu := HU.out
        simp at h1
        rcases hk with rfl | ⟨hne, x, e, rfl⟩
        · omega
        · have h7 := k2.lt x e (pairsV_ne hne)
          omega)
      have HK : Hid (∀ W3, Fr (fun k _ => k = u) W0 W3 → Below wr.heap.size wr W3 ∧ W3.cell? ⟨w.heap.size, 0, none⟩ = some (.string ⟨s.toArray⟩) ∧ W3.cell? ⟨w.heap.size, 1, none⟩ = some (.string ⟨t.toArray⟩)) := Lib.hid (fun W3 hf => by
        obtain ⟨k1, k2, k3⟩ := HV.out
        have hb1 : Below wr.heap.size wr W0 := k3.trans (HW.out.2.2.2.mono k3.size)
        have hu := HU.out
        have hs3 := k3.size
        have hb2 : Below wr.heap.size wr W3 := hb1.trans (hf.below (B := wr.heap.size) hb1.size (fun k x e => by omega))
        have hlow := (HO.out.later hb2).low
        obtain ⟨y0, y1⟩ := HX.out W3 (H1.out.trans (hlow.mono H1.out.size))
        exact ⟨hb2, y0, y1⟩)
      rw [hu, hW0]
      clear hu hW0
      have HCl : Hid (u < W0.heap.size) := Lib.hid (by have := HW.out.1; omega)
      refine (wpIn_wide (n := 3)).1 ?_
      refine' wpIn_range_tells (by omega) (gf := 46) (lb := #[.pointer (some ⟨Bx, 0, none⟩)]) rfl (enters_any Try.func46 (by kernel_rfl) rfl) (encs := prE) (stops := False) (xs := L)
        (R := fun k => k = Bx ∨ (L ≠ [] ∧ ∃ x, a2 = some x ∧ k = x.block)) (K0 := fun _ => False) (fun o1 o2 => ?seq) (fun x => rfl) (fun k hk => Nat.lt_trans (HRR.out k hk) HCl.out) (fun k hk => hk.elim)
        (Boxd (fun l : List Pr => .int .i64 ((Tr.rng s t l).length : Nat)) W0 u) (fun _ _ _ _ => False) (Boxd.clos HCl.out)
        (fun _ _ _ _ _ _ h _ _ => h) (.inr (fun _ _ _ _ h => h)) (Boxd.start HW.out.2.1 HW.out.2.2.1)
        _ ?assign ?body ?done ?stop
      case seq =>
        obtain ⟨k1, k2, k3⟩ := HV.out
        have hbo : Below V.heap.size V ((W0.alloc o1).alloc o2) := HW.out.2.2.2.trans (((al1 W0 o1).trans ((al1 (W0.alloc o1) o2).mono (by simp))).mono HW.out.2.2.2.size)
        refine all1_tells Bx a2 c2 L _ _ (by have := HLn.out; omega) (old_cell k1 hbo) (k2.later hbo) (.inl rfl) (fun hne x hx => .inr ⟨hne, x, hx, rfl⟩) (fun k hk => ?_)
        have h1 := HRR.out k hk
        have h2 := hbo.size
        have h3 := HU.out
        omega
      case assign =>
        intro l' x W2 K1 hK1
        simp only [prE]
        gi_wp2
        exact hK1
      case body =>
        rintro l' K pre x post W3 hx _ hI
        have HI := Lib.hid hI
        obtain ⟨h4, h5, h6, h7⟩ := hI
        obtain ⟨_, y0, y1⟩ := HK.out W3 h6
        have q1 := str_geq 9 x.1 s
        have q4 : binOp .eql 9 (.string ⟨t.toArray⟩) (.string ⟨#[]⟩) = pure (.bool (t == [])) := str_eql 9 t []
        have q3 := str_lss 9 x.1 t
        have hE : inR s t x = (!Op.bytesLess x.1 s && (t == [] || Op.bytesLess x.1 t)) := by
          unfold inR
          cases t with
          | nil => simp
          | cons y t => simp
        have hst := fun Wa (hb : Below W3.heap.size W3 Wa) => Boxd.step (f := fun l : List Pr => Value.int .i64 ((Tr.rng s t l).length : Nat)) (x := x) HCl.out HI.out hb (fun k => k = Bx ∨ (L ≠ [] ∧ ∃ x, a2 = some x ∧ k = x.block)) (fun k hk => by have := HRR.out k hk; omega)
        have HST := Lib.hid hst
        have hpl : pre.length ≤ 200 := by have := HLn.out; rw [hx] at this; simp at this; omega
        have hnl : (Tr.rng s t pre).length ≤ 200 := Nat.le_trans (rng_len s t pre) hpl
        have HEs := Lib.hid (rng_snoc (s := s) (t := t) pre x)
        obtain ⟨n, hn⟩ : ∃ n, (Tr.rng s t pre).length = n := ⟨_, rfl⟩
        have HNn := Lib.hid hn
        dsimp only at h4
        rw [hn] at h4 hnl
        have g1 : wrap64 ((n : Int) + 1) = ((n + 1 : Nat) : Int) := Go.IntWalk.wrap64_in _ (by omega)
        clear hst h6 h7 hx hpl hn
        have hcase : inR s t x = true ∨ inR s t x = false := by cases inR s t x <;> simp
        cases b1 : Op.bytesLess x.1 s with
        | true =>
          rw [b1] at q1
          have hF : inR s t x = false := by rw [hE, b1]; rfl
          clear hcase hE b1
          gi_wp2
          have e1 : Tr.rng s t (pre ++ [x]) = Tr.rng s t pre := by rw [HEs.out, hF]; simp
          refine ⟨Fr.refl _ _, ?_, ?_⟩
          · have h9 := HI.out.1
            dsimp only at h9 ⊢
            rw [e1]
            exact h9
          · exact HI.out.2
        | false =>
          rw [b1] at q1
          cases b2 : t == [] with
          | true =>
            rw [b2] at q4
            have hF : inR s t x = true := by rw [hE, b1, b2]; rfl
            clear hcase hE b1 b2
            gi_wp2
            have e1 : (Tr.rng s t (pre ++ [x])).length = n + 1 := by rw [HEs.out, hF, List.length_append, HNn.out]; rfl
            have h9 := HST.out _ (Below.refl _ W3)
            rw [e1] at h9
            first | exact h9 | (rw [g1]; exact h9) | (rw [← g1] at h9; exact h9)
          | false =>
            rw [b2] at q4
            cases b3 : Op.bytesLess x.1 t with
            | true =>
              rw [b3] at q3
              have hF : inR s t x = true := by rw [hE, b1, b2, b3]; rfl
              clear hcase hE b1 b2
              gi_wp2
              have e1 : (Tr.rng s t (pre ++ [x])).length = n + 1 := by rw [HEs.out, hF, List.length_append, HNn.out]; rfl
              have h9 := HST.out _ (Below.refl _ W3)
              rw [e1] at h9
              first | exact h9 | (rw [g1]; exact h9) | (rw [← g1] at h9; exact h9)
            | false =>
              rw [b3] at q3
              have hF : inR s t x = false := by rw [hE, b1, b2, b3]; rfl
              clear hcase hE b1
              gi_wp2
              have e1 : Tr.rng s t (pre ++ [x]) = Tr.rng s t pre := by rw [HEs.out, hF]; simp
              refine ⟨Fr.refl _ _, ?_, ?_⟩
              · have h9 := HI.out.1
                dsimp only at h9 ⊢
                rw [e1]
                exact h9
              · exact HI.out.2
      case stop =>
        intro D c K pre x post W2 _ h
        exact h.elim
      case done =>
        rintro D K W3 ⟨h4, h5, h6, h7⟩ _ hKD hsD hDef
        obtain ⟨hb3, y0, y1⟩ := HK.out W3 h6
        dsimp only at h4
        rw [HR.out, HNl.out] at h4
        have HO3 := Lib.hid (HO.out.later hb3)
        have HL3 : Hid (Below W.heap.size W W3) := Lib.hid (H1.out.trans (HO3.out.low.mono H1.out.size))
        have H3' := Lib.hid (And.intro hsD hDef)
        have HD2 : Hid (∀ V, Below W3.heap.size W3 V → ∀ E ∈ [D], V.heap[E]? = some (.deferred (some []))) := Lib.hid (fun V hb E hE => by
          simp at hE; subst hE
          exact (hb.block E (Array.getElem?_eq_some_iff.1 hDef).1).trans hDef)
        have HFin2 : Hid (∀ V, Below W3.heap.size W3 V → ∀ W', Fr (fun k _ => k ∈ [D]) V W' → Below w.heap.size w W') := Lib.hid (fun V hb W' hf => by
          have h1 := HFin.out V (HL3.out.trans (hb.mono HL3.out.size))
          have h2 := HL3.out.size
          have h3 := HW.out.1
          have h4 := HW.out.2.2.2.size
          have h5 := HV.out.2.2.size
          have h6 := HsW.out
          have h7 := HO.out.size
          have h8 := H1.out.size
          exact h1.trans (hf.below (B := w.heap.size) h1.size (fun k x e => by simp at e; omega)))
        clear h5 h6 h7 hKD hsD hDef hb3
        have p1 := str_lss 9 mid s
        have p2 : binOp .eql 9 (.string ⟨mid.toArray⟩) (.string ⟨#[]⟩) = pure (.bool (mid == [])) := str_eql 9 mid []
        have p4 := str_gtr 9 mid t
        cases b1 : Op.bytesLess mid s with
        | true =>
          rw [b1] at p1
          go_wp2_with (go_at_call 24; refine (HA.out _).mono ?_; rintro e V9 ⟨rfl, hb⟩; have H9 := Lib.hid hb; clear hb)
          exact leave_marks [D] _ (by simp) (HD2.out _ H9.out) (fun W' hf => ⟨_, results_tmp rfl _ _ _, rfl, HFin2.out _ H9.out W' hf⟩)
        | false =>
          rw [b1] at p1
          cases b2 : mid == [] with
          | true =>
            rw [b2] at p2
            go_wp2_with (go_at_call 24; refine (HA.out _).mono ?_; rintro e V9 ⟨rfl, hb⟩; have H9 := Lib.hid hb; clear hb)
            exact leave_marks [D] _ (by simp) (HD2.out _ H9.out) (fun W' hf => ⟨_, results_tmp rfl _ _ _, rfl, HFin2.out _ H9.out W' hf⟩)
          | false =>
            rw [b2] at p2
            cases b3 : t == [] with
            | true =>
              rw [b3] at q2
              have hs2 : t = [] ∨ less t mid = false := .inl (by simpa using b3)
              clear b3
              have hm : mid ≠ [] := by simpa using b2
              obtain ⟨A, hA⟩ : ∃ A, Tr.rng s mid L = A := ⟨_, rfl⟩
              obtain ⟨Bb, hB⟩ : ∃ B, Tr.rng mid t L = B := ⟨_, rfl⟩
              have hRAB : R = A ++ Bb := by rw [← HR.out, ← hA, ← hB]; exact rng_meet HSo.out hm b1 hs2
              obtain ⟨NA, hNA⟩ : ∃ n, A.length = n := ⟨_, rfl⟩
              obtain ⟨NB, hNB⟩ : ∃ n, Bb.length = n := ⟨_, rfl⟩
              have hsum : NA + NB = N := by rw [← HNl.out, hRAB, List.length_append, hNA, hNB]
              have HS1 : Hid (∀ V, Below W3.heap.size W3 V → Calls Try.prog 27 #[ptrV b, .string ⟨s.toArray⟩, .string ⟨mid.toArray⟩, .int .i64 1000] V fun e V2 => ∃ (a : Option Addr) (c : Nat), e = .returned (.tuple #[.slice a NA c, .int .i64 0]) ∧ Rd V2 2 a NA c (pairsV A) ∧ Below W3.heap.size W3 V2) := Lib.hid (fun V hb => by
                have h := own_scan s mid 1000 (.inr b1) (HO3.out.later hb) (okL_short HOk.out) (by have := HLn.out; omega)
                rw [hA, List.take_of_length_le (by omega), hNA] at h
                refine h.mono ?_
                rintro e V2 ⟨a, c, rfl, h1, h2⟩
                exact ⟨a, c, rfl, h1, hb.trans (h2.mono hb.size)⟩)
              have HS2 : Hid (∀ V, Below W3.heap.size W3 V → Calls Try.prog 27 #[ptrV b, .string ⟨mid.toArray⟩, .string ⟨t.toArray⟩, .int .i64 1000] V fun e V2 => ∃ (a : Option Addr) (c : Nat), e = .returned (.tuple #[.slice a NB c, .int .i64 0]) ∧ Rd V2 2 a NB c (pairsV Bb) ∧ Below V.heap.size V V2) := Lib.hid (fun V hb => by
                have h := own_scan mid t 1000 hs2 (HO3.out.later hb) (okL_short HOk.out) (by have := HLn.out; omega)
                rw [hB, List.take_of_length_le (by omega), hNB] at h
                exact h)
              have HRAB := Lib.hid hRAB
              have HNA := Lib.hid hNA
              have HNB := Lib.hid hNB
              have HXd : Hid (∀ V, Below W3.heap.size W3 V → V.cell? ⟨w.heap.size, 0, none⟩ = some (.string ⟨s.toArray⟩) ∧ V.cell? ⟨w.heap.size, 1, none⟩ = some (.string ⟨t.toArray⟩)) := Lib.hid (fun V hb => HX.out V (HL3.out.trans (hb.mono HL3.out.size)))
              have g1 : wrap64 ((NA : Int) + (NB : Int)) = (N : Int) := by rw [← hsum]; exact Go.IntWalk.wrap64_in _ (by omega)
              have g2 : (NA : Int) + (NB : Int) = (N : Int) := by omega
              have tok1 : True := trivial
              clear hm hA hB hRAB hNA hNB b1 b2 hs2
              go_wp2_with (first
                | (go_at_call 27; have _t := tok1; refine (HS1.out _ (Below.refl _ _)).mono ?_; rintro e V6 ⟨a6, c6, rfl, k6, b6⟩; have H6 := Lib.hid (And.intro k6 b6); obtain ⟨w0, w1⟩ := HXd.out _ b6; clear k6 b6 tok1 _t)
                | (go_at_call 27; refine (HS2.out _ H6.out.2).mono ?_; rintro e V7 ⟨a7, c7, rfl, k7, b7⟩; have H7 := Lib.hid (And.intro (H6.out.1.later b7) (And.intro k7 (H6.out.2.trans (b7.mono H6.out.2.size)))); clear k7 b7))
              have HRA : Hid (∀ V, Below V7.heap.size V7 V → Rd V 2 aa N cc (pairsV R) ∧ Rd V 2 a6 NA c6 (pairsV A) ∧ Rd V 2 a7 NB c7 (pairsV Bb)) := Lib.hid (fun V hb => by
                obtain ⟨k6, k7, b7⟩ := H7.out
                exact ⟨(own_rd (HO3.out.later b7).swap).later hb, k6.later hb, k7.later hb⟩)
              clear w0 w1
              go_loopw [24] (fun i wr2 => ∃ (q : Nat), q ≤ N ∧ i = .int .i64 q ∧ Hid (Below V7.heap.size V7 wr2)) (fun i _ => N - (intOf i).toNat)
              case atStart => exact ⟨0, by omega, rfl, Lib.hid (Below.refl _ _)⟩
              case round =>
                obtain ⟨q, hq, rfl, HQ⟩ := hrel
                have i0 : (0 : Int) ≤ (q : Int) := by omega
                by_cases hqn : q < N
                · have i1 : (q : Int) < (N : Int) := by omega
                  obtain ⟨x, hx⟩ : ∃ x, R[q]? = some x := ⟨_, List.getElem?_eq_getElem (by rw [HNl.out]; exact hqn)⟩
                  obtain ⟨f1, f2⟩ := append_at HRAB.out hx
                  rw [HNA.out] at f1 f2
                  obtain ⟨h1, h2, h3⟩ := HRA.out _ HQ.out
                  obtain ⟨xb, xo, haa, x1, x2⟩ := rd_pair h1 hx
                  subst haa
                  have q5 := neqTwo x.1 x.2 x.1 x.2 true (by simp)
                  by_cases hqa : q < NA
                  · obtain ⟨ab, ao, ha6, y1, y2⟩ := rd_pair h2 (f1 hqa)
                    subst ha6
                    have j1 : (q : Int) < (NA : Int) := by omega
                    have d1 : decide ((q : Int) < (NA : Int)) = true := decide_eq_true j1
                    have d2 : decide ((NA : Int) ≤ (q : Int)) = false := decide_eq_false (by omega)
                    have d3 : ¬ (NA : Int) ≤ (q : Int) := by omega
                    have n1 : ¬ NA ≤ q := by omega
                    have n2 : decide (NA ≤ q) = false := decide_eq_false n1
                    clear f1 f2 h1 h2 h3 hx
                    go_wp2
                    refine wp_only ?_
                    go_quiet (fail)
                    simp only [onlyK]
                    go_wp2
                    go_roundw
                    case rel => exact ⟨q + 1, by omega, by go_num, Lib.hid (HQ.out.trans (below_drewN _ nq |>.mono HQ.out.size))⟩
                    case measure => simp [intOf]; omega
                  · obtain ⟨ab, ao, ha7, y1, y2⟩ := rd_pair h3 (f2 hqa)
                    subst ha7
                    have j1 : ¬ (q : Int) < (NA : Int) := by omega
                    have d1 : decide ((q : Int) < (NA : Int)) = false := decide_eq_false j1
                    have d2 : decide ((NA : Int) ≤ (q : Int)) = true := decide_eq_true (by omega)
                    have d3 : (NA : Int) ≤ (q : Int) := by omega
                    have d4 : wrap64 ((q : Int) - (NA : Int)) = ((q - NA : Nat) : Int) := by rw [show (q : Int) - (NA : Int) = ((q - NA : Nat) : Int) by omega]; exact Go.IntWalk.wrap64_in _ (by omega)
                    have d5 : (0 : Int) ≤ (q : Int) - (NA : Int) := by omega
                    have d6 : (q : Int) - (NA : Int) < (NB : Int) := by omega
                    have d7 : ((q : Int) - (NA : Int)).toNat = q - NA := by omega
                    clear f1 f2 h1 h2 h3 hx
                    go_wp2
                    refine wp_only ?_
                    go_quiet (fail)
                    simp only [onlyK]
                    go_wp2
                    go_roundw
                    case rel => exact ⟨q + 1, by omega, by go_num, Lib.hid (HQ.out.trans (below_drewN _ nq |>.mono HQ.out.size))⟩
                    case measure => simp [intOf]; omega
                · obtain rfl : q = N := by omega
                  have i1 : ¬ (q : Int) < (q : Int) := by omega
                  go_wp2_with (go_at_call 24; refine (HA.out _).mono ?_; rintro e V9 ⟨rfl, hb⟩; have H9 := Lib.hid (H7.out.2.2.trans ((HQ.out.trans (hb.mono HQ.out.size)).mono H7.out.2.2.size)); clear hb)
                  exact leave_marks [D] _ (by simp) (HD2.out _ H9.out) (fun W' hf => ⟨_, results_tmp rfl _ _ _, rfl, HFin2.out _ H9.out W' hf⟩)
            | false =>
              rw [b3] at q2
              cases b4 : Op.bytesLess t mid with
              | true =>
                rw [b4] at p4
                go_wp2_with (go_at_call 24; refine (HA.out _).mono ?_; rintro e V9 ⟨rfl, hb⟩; have H9 := Lib.hid hb; clear hb)
                exact leave_marks [D] _ (by simp) (HD2.out _ H9.out) (fun W' hf => ⟨_, results_tmp rfl _ _ _, rfl, HFin2.out _ H9.out W' hf⟩)
              | false =>
                rw [b4] at p4
                have hs2 : t = [] ∨ less t mid = false := .inr b4
                clear b3 b4
                have hm : mid ≠ [] := by simpa using b2
                obtain ⟨A, hA⟩ : ∃ A, Tr.rng s mid L = A := ⟨_, rfl⟩
                obtain ⟨Bb, hB⟩ : ∃ B, Tr.rng mid t L = B := ⟨_, rfl⟩
                have hRAB : R = A ++ Bb := by rw [← HR.out, ← hA, ← hB]; exact rng_meet HSo.out hm b1 hs2
                obtain ⟨NA, hNA⟩ : ∃ n, A.length = n := ⟨_, rfl⟩
                obtain ⟨NB, hNB⟩ : ∃ n, Bb.length = n := ⟨_, rfl⟩
                have hsum : NA + NB = N := by rw [← HNl.out, hRAB, List.length_append, hNA, hNB]
                have HS1 : Hid (∀ V, Below W3.heap.size W3 V → Calls Try.prog 27 #[ptrV b, .string ⟨s.toArray⟩, .string ⟨mid.toArray⟩, .int .i64 1000] V fun e V2 => ∃ (a : Option Addr) (c : Nat), e = .returned (.tuple #[.slice a NA c, .int .i64 0]) ∧ Rd V2 2 a NA c (pairsV A) ∧ Below W3.heap.size W3 V2) := Lib.hid (fun V hb => by
                  have h := own_scan s mid 1000 (.inr b1) (HO3.out.later hb) (okL_short HOk.out) (by have := HLn.out; omega)
                  rw [hA, List.take_of_length_le (by omega), hNA] at h
                  refine h.mono ?_
                  rintro e V2 ⟨a, c, rfl, h1, h2⟩
                  exact ⟨a, c, rfl, h1, hb.trans (h2.mono hb.size)⟩)
                have HS2 : Hid (∀ V, Below W3.heap.size W3 V → Calls Try.prog 27 #[ptrV b, .string ⟨mid.toArray⟩, .string ⟨t.toArray⟩, .int .i64 1000] V fun e V2 => ∃ (a : Option Addr) (c : Nat), e = .returned (.tuple #[.slice a NB c, .int .i64 0]) ∧ Rd V2 2 a NB c (pairsV Bb) ∧ Below V.heap.size V V2) := Lib.hid (fun V hb => by
                  have h := own_scan mid t 1000 hs2 (HO3.out.later hb) (okL_short HOk.out) (by have := HLn.out; omega)
                  rw [hB, List.take_of_length_le (by omega), hNB] at h
                  exact h)
                have HRAB := Lib.hid hRAB
                have HNA := Lib.hid hNA
                have HNB := Lib.hid hNB
                have HXd : Hid (∀ V, Below W3.heap.size W3 V → V.cell? ⟨w.heap.size, 0, none⟩ = some (.string ⟨s.toArray⟩) ∧ V.cell? ⟨w.heap.size, 1, none⟩ = some (.string ⟨t.toArray⟩)) := Lib.hid (fun V hb => HX.out V (HL3.out.trans (hb.mono HL3.out.size)))
                have g1 : wrap64 ((NA : Int) + (NB : Int)) = (N : Int) := by rw [← hsum]; exact Go.IntWalk.wrap64_in _ (by omega)
                have g2 : (NA : Int) + (NB : Int) = (N : Int) := by omega
                have tok1 : True := trivial
                clear hm hA hB hRAB hNA hNB b1 b2 hs2
                go_wp2_with (first
                  | (go_at_call 27; have _t := tok1; refine (HS1.out _ (Below.refl _ _)).mono ?_; rintro e V6 ⟨a6, c6, rfl, k6, b6⟩; have H6 := Lib.hid (And.intro k6 b6); obtain ⟨w0, w1⟩ := HXd.out _ b6; clear k6 b6 tok1 _t)
                  | (go_at_call 27; refine (HS2.out _ H6.out.2).mono ?_; rintro e V7 ⟨a7, c7, rfl, k7, b7⟩; have H7 := Lib.hid (And.intro (H6.out.1.later b7) (And.intro k7 (H6.out.2.trans (b7.mono H6.out.2.size)))); clear k7 b7))
                have HRA : Hid (∀ V, Below V7.heap.size V7 V → Rd V 2 aa N cc (pairsV R) ∧ Rd V 2 a6 NA c6 (pairsV A) ∧ Rd V 2 a7 NB c7 (pairsV Bb)) := Lib.hid (fun V hb => by
                  obtain ⟨k6, k7, b7⟩ := H7.out
                  exact ⟨(own_rd (HO3.out.later b7).swap).later hb, k6.later hb, k7.later hb⟩)
                clear w0 w1
                go_loopw [24] (fun i wr2 => ∃ (q : Nat), q ≤ N ∧ i = .int .i64 q ∧ Hid (Below V7.heap.size V7 wr2)) (fun i _ => N - (intOf i).toNat)
                case atStart => exact ⟨0, by omega, rfl, Lib.hid (Below.refl _ _)⟩
                case round =>
                  obtain ⟨q, hq, rfl, HQ⟩ := hrel
                  have i0 : (0 : Int) ≤ (q : Int) := by omega
                  by_cases hqn : q < N
                  · have i1 : (q : Int) < (N : Int) := by omega
                    obtain ⟨x, hx⟩ : ∃ x, R[q]? = some x := ⟨_, List.getElem?_eq_getElem (by rw [HNl.out]; exact hqn)⟩
                    obtain ⟨f1, f2⟩ := append_at HRAB.out hx
                    rw [HNA.out] at f1 f2
                    obtain ⟨h1, h2, h3⟩ := HRA.out _ HQ.out
                    obtain ⟨xb, xo, haa, x1, x2⟩ := rd_pair h1 hx
                    subst haa
                    have q5 := neqTwo x.1 x.2 x.1 x.2 true (by simp)
                    by_cases hqa : q < NA
                    · obtain ⟨ab, ao, ha6, y1, y2⟩ := rd_pair h2 (f1 hqa)
                      subst ha6
                      have j1 : (q : Int) < (NA : Int) := by omega
                      have d1 : decide ((q : Int) < (NA : Int)) = true := decide_eq_true j1
                      have d2 : decide ((NA : Int) ≤ (q : Int)) = false := decide_eq_false (by omega)
                      have d3 : ¬ (NA : Int) ≤ (q : Int) := by omega
                      have n1 : ¬ NA ≤ q := by omega
                      have n2 : decide (NA ≤ q) = false := decide_eq_false n1
                      clear f1 f2 h1 h2 h3 hx
                      go_wp2
                      refine wp_only ?_
                      go_quiet (fail)
                      simp only [onlyK]
                      go_wp2
                      go_roundw
                      case rel => exact ⟨q + 1, by omega, by go_num, Lib.hid (HQ.out.trans (below_drewN _ nq |>.mono HQ.out.size))⟩
                      case measure => simp [intOf]; omega
                    · obtain ⟨ab, ao, ha7, y1, y2⟩ := rd_pair h3 (f2 hqa)
                      subst ha7
                      have j1 : ¬ (q : Int) < (NA : Int) := by omega
                      have d1 : decide ((q : Int) < (NA : Int)) = false := decide_eq_false j1
                      have d2 : decide ((NA : Int) ≤ (q : Int)) = true := decide_eq_true (by omega)
                      have d3 : (NA : Int) ≤ (q : Int) := by omega
                      have d4 : wrap64 ((q : Int) - (NA : Int)) = ((q - NA : Nat) : Int) := by rw [show (q : Int) - (NA : Int) = ((q - NA : Nat) : Int) by omega]; exact Go.IntWalk.wrap64_in _ (by omega)
                      have d5 : (0 : Int) ≤ (q : Int) - (NA : Int) := by omega
                      have d6 : (q : Int) - (NA : Int) < (NB : Int) := by omega
                      have d7 : ((q : Int) - (NA : Int)).toNat = q - NA := by omega
                      clear f1 f2 h1 h2 h3 hx
                      go_wp2
                      refine wp_only ?_
                      go_quiet (fail)
                      simp only [onlyK]
                      go_wp2
                      go_roundw
                      case rel => exact ⟨q + 1, by omega, by go_num, Lib.hid (HQ.out.trans (below_drewN _ nq |>.mono HQ.out.size))⟩
                      case measure => simp [intOf]; omega
                  · obtain rfl : q = N := by omega
                    have i1 : ¬ (q : Int) < (q : Int) := by omega
                    go_wp2_with (go_at_call 24; refine (HA.out _).mono ?_; rintro e V9 ⟨rfl, hb⟩; have H9 := Lib.hid (H7.out.2.2.trans ((HQ.out.trans (hb.mono HQ.out.size)).mono H7.out.2.2.size)); clear hb)
                    exact leave_marks [D] _ (by simp) (HD2.out _ H9.out) (fun W' hf => ⟨_, results_tmp rfl _ _ _, rfl, HFin2.out _ H9.out W' hf⟩)

end Go.Proofs.Ytbempjkkohjnbaa
