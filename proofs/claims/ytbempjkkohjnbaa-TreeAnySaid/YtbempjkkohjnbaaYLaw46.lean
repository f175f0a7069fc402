/- Joined: Law46. -/
import Derived.Test.YtbempjkkohjnbaaYLaw45
import Derived.Test.YtbempjkkohjnbaaYLaw24
import Derived.Test.YtbempjkkohjnbaaYLaw9
import Derived.Test.YtbempjkkohjnbaaYIter3
import Derived.Test.YtbempjkkohjnbaaYTree34
/- The laws of package tree: TreeAny. -/
namespace Go.Proofs.Ytbempjkkohjnbaa
open Go.RowKit Tr
open Ky (less)
attribute [local go_sem] Oper.semAt_some
theorem permA7 {A C D : Rs} : [D, A, C].Perm [C, A, D] := (List.reverse_perm [D, A, C]).symm
theorem permA8 {A C D E : Rs} : [A, C, D, E].Perm [D, A, C, E] := (List.perm_append_comm (l₁ := [A, C]) (l₂ := [D])).append_right [E]
theorem permA9 {A C D E : Rs} : [A, C, D, E].Perm [D, A, C, E] := permA8
theorem i64_in (x : Int) (h0 : -9223372036854775808 ≤ x) (h1 : x ≤ 9223372036854775807) : IntKind.i64.wrap x = x := by
  simp [IntKind.wrap, IntKind.signed, IntKind.bits]
  omega
theorem permA3 {A C D : Rs} : [A, C, D].Perm [C, D, A] := (List.Perm.swap C A [D]).trans (List.Perm.cons C (.swap D A []))
theorem permA3' {A C D : Rs} : [C, D, A].Perm [A, C, D] := permA3.symm
set_option maxHeartbeats 16000000 in
set_option maxRecDepth 100000 in
theorem treeAny_walk (order : Int) (a : Option Addr) (c : Nat) (l : List Str) (from_ : Int) (w : World) (hr : Rd w 1 a l.length c (strsV l)) (hv : -9223372036854775808 ≤ from_ ∧ from_ ≤ 9223372036854775807) :
    Calls Try.prog 3 #[.int .i64 order, .slice a l.length c, .int .i64 from_] w (Yes w) := by
  have hcap := hr.cap
  have hle := hr.le
  unfold maxLen at hcap
  have HA := Lib.hid (fun W => awake4_any W)
  have hb0 : Below w.heap.size w (w.alloc (.cells #[.bool false] 4)) := al1 w _
  obtain ⟨W, hW⟩ : ∃ W, w.alloc (.cells #[.bool false] 4) = W := ⟨_, rfl⟩
  have s1 : W.heap.size = w.heap.size + 1 := by rw [← hW]; simp
  have x2 : W.cell? ⟨w.heap.size, 0, none⟩ = some (.bool false) := by rw [← hW]; simp
  have x3 : W.frozen? ⟨w.heap.size, 0, none⟩ = false := by rw [← hW]; simp
  rw [hW] at hb0
  have HX : Hid (∀ V, Below W.heap.size W V → V.cell? ⟨w.heap.size, 0, none⟩ = some (.bool false) ∧ V.frozen? ⟨w.heap.size, 0, none⟩ = false) := Lib.hid (fun V hb => ⟨old_cell x2 hb, (hb.frozen (p := ⟨w.heap.size, 0, none⟩) (block_of_cell x2)).trans x3⟩)
  have HEnd : Hid (∀ V, Below W.heap.size W V → Below w.heap.size w (V.setCell ⟨w.heap.size, 0, none⟩ (.bool true))) := Lib.hid (fun V h => (hb0.trans (h.mono hb0.size)).setCell (p := ⟨w.heap.size, 0, none⟩) (Nat.le_refl _) _)
  have HSz := Lib.hid s1
  have HR := Lib.hid (hr.later hb0)
  have HN0 := Lib.hid (Own.nil W)
  have tok1 : True := trivial
  obtain ⟨n, hn⟩ : ∃ n, l.length = n := ⟨_, rfl⟩
  have HNl := Lib.hid hn
  rw [hn] at HR hle ⊢
  clear hb0 s1 hr hn x2 x3
  by_cases ho : order < 2 ∨ 16 < order
  · have HN := Lib.hid (fun W => newT_bad order ho W)
    have H2a := Lib.hid (al1 W (.cells #[.int .i64 n] 3))
    clear ho
    refine calls_marks Try.func3 rfl ?_
    simp only [Try.ntmps3, List.size_toArray, List.length_cons, List.length_nil, Nat.reduceAdd, Nat.reduceSub, Array.replicate_succ, Array.replicate_zero, List.push_toArray, List.append_toArray, List.nil_append, List.cons_append]
    refine wpIn_wide.2 ?_
    go_wp2_with (first
      | (go_at_call 17; refine (HN.out _).mono ?_; rintro e V1 ⟨rfl, rfl⟩)
      | (go_at_call 18; refine (HA.out _).mono ?_; rintro e V9 ⟨rfl, hb⟩; have H9 := Lib.hid ((H2a.out).trans (hb.mono (H2a.out).size)); obtain ⟨y0, y1⟩ := HX.out _ H9.out; clear hb))
    exact leave_none ⟨_, results_bool rfl _ _ w.heap.size (.bool true) rfl (World.cell?_setCell_same' _ _ _ (by rw [y0]; rfl)), rfl, HEnd.out _ H9.out⟩
  obtain ⟨o, rfl⟩ : ∃ o : Nat, order = o := ⟨order.toNat, by omega⟩
  have HN := Lib.hid (fun L V (h : Own W.heap.size W L V) => own_new o (by omega) (by omega) h)
  clear ho
  by_cases hn1 : 100 < n
  · have k1 : (100 : Int) < (n : Int) := by omega
    clear hn1
    refine calls_marks Try.func3 rfl ?_
    simp only [Try.ntmps3, List.size_toArray, List.length_cons, List.length_nil, Nat.reduceAdd, Nat.reduceSub, Array.replicate_succ, Array.replicate_zero, List.push_toArray, List.append_toArray, List.nil_append, List.cons_append]
    refine wpIn_wide.2 ?_
    go_wp2_with (first
      | (go_at_call 17; have _t := tok1; refine (HN.out _ _ HN0.out).mono ?_; rintro e V1 ⟨b, rfl, h1⟩; have H1 := Lib.hid h1; clear tok1 _t h1)
      | (go_at_call 17; refine (HN.out _ _ H1.out).mono ?_; rintro e V2 ⟨d, rfl, h2⟩; have H2 := Lib.hid h2; have H2a := Lib.hid (h2.low.trans ((al1 V2 (.cells #[.int .i64 n] 3)).mono h2.low.size)); clear h2)
      | (go_at_call 18; refine (HA.out _).mono ?_; rintro e V9 ⟨rfl, hb⟩; have H9 := Lib.hid ((H2a.out).trans (hb.mono (H2a.out).size)); obtain ⟨y0, y1⟩ := HX.out _ H9.out; clear hb))
    exact leave_none ⟨_, results_bool rfl _ _ w.heap.size (.bool true) rfl (World.cell?_setCell_same' _ _ _ (by rw [y0]; rfl)), rfl, HEnd.out _ H9.out⟩
  have k1 : ¬ (100 : Int) < (n : Int) := by omega
  refine calls_marks Try.func3 rfl ?_
  simp only [Try.ntmps3, List.size_toArray, List.length_cons, List.length_nil, Nat.reduceAdd, Nat.reduceSub, Array.replicate_succ, Array.replicate_zero, List.push_toArray, List.append_toArray, List.nil_append, List.cons_append]
  refine wpIn_wide.2 ?_
  go_wp2_with (first
    | (go_at_call 17; have _t := tok1; refine (HN.out _ _ HN0.out).mono ?_; rintro e V1 ⟨b, rfl, h1⟩; have H1 := Lib.hid h1; clear tok1 _t h1)
    | (go_at_call 17; refine (HN.out _ _ H1.out).mono ?_; rintro e V2 ⟨d, rfl, h2⟩; have H2 := Lib.hid h2; have H2a := Lib.hid (h2.low.trans ((al1 V2 (.cells #[.int .i64 n] 3)).mono h2.low.size)); clear h2))
  have HO3 := Lib.hid (own_cells H2.out #[.int .i64 n] 3)
  obtain ⟨u, hu⟩ : ∃ u, V2.heap.size = u := ⟨_, rfl⟩
  rw [hu] at HO3 ⊢
  generalize V2.alloc (.cells #[.int .i64 n] 3) = V3 at *
  clear hu H2a
  have HU : Hid (∀ V, Below V3.heap.size V3 V → V.cell? ⟨u, 0, none⟩ = some (.int .i64 n)) := Lib.hid (fun V hb => own_cell (HO3.out.later hb) rfl)
  go_loopw [12] (fun i wr => ∃ (j : Nat), j ≤ n ∧ i = .int .i64 j ∧ Hid (Below V3.heap.size V3 wr ∧ (∀ x ∈ l.take j, okTk x = true) ∧ (l.take j).Nodup)) (fun i _ => n - (intOf i).toNat)
  case atStart => exact ⟨0, by omega, rfl, Lib.hid ⟨Below.refl _ _, fun x hx => by simp at hx, by simp⟩⟩
  case round =>
    obtain ⟨j, hj, rfl, HJ⟩ := hrel
    have j0 : (0 : Int) ≤ (j : Int) := by omega
    have u0 := HU.out _ HJ.out.1
    have HLw := Lib.hid ((HO3.out.later HJ.out.1).low)
    by_cases hlt : j < n
    · have j1 : (j : Int) < (n : Int) := by omega
      obtain ⟨x, hx⟩ : ∃ x, l[j]? = some x := ⟨_, List.getElem?_eq_getElem (by rw [HNl.out]; exact hlt)⟩
      obtain ⟨lb, lo, rfl, z0⟩ := strs_at HR.out hx
      have x0 := old_cell z0 HLw.out
      have HXx := Lib.hid hx
      have HZ := Lib.hid z0
      clear hx z0
      by_cases hc1 : x.length < 1
      · have c1 : (x.length : Int) < 1 := by omega
        have c2 : decide ((x.length : Int) < 1) = true := decide_eq_true c1
        go_wp2_with (go_at_call 18; refine (HA.out _).mono ?_; rintro e V9 ⟨rfl, hb⟩; have H9 := Lib.hid ((HLw.out).trans (hb.mono (HLw.out).size)); obtain ⟨y0, y1⟩ := HX.out _ H9.out; clear hb)
        exact leave_none ⟨_, results_bool rfl _ _ w.heap.size (.bool true) rfl (World.cell?_setCell_same' _ _ _ (by rw [y0]; rfl)), rfl, HEnd.out _ H9.out⟩
      have c1 : ¬ (x.length : Int) < 1 := by omega
      have c2 : decide ((x.length : Int) < 1) = false := decide_eq_false c1
      by_cases hc3 : 64 < x.length
      · have c3 : (64 : Int) < (x.length : Int) := by omega
        have c4 : decide ((64 : Int) < (x.length : Int)) = true := decide_eq_true c3
        go_wp2_with (go_at_call 18; refine (HA.out _).mono ?_; rintro e V9 ⟨rfl, hb⟩; have H9 := Lib.hid ((HLw.out).trans (hb.mono (HLw.out).size)); obtain ⟨y0, y1⟩ := HX.out _ H9.out; clear hb)
        exact leave_none ⟨_, results_bool rfl _ _ w.heap.size (.bool true) rfl (World.cell?_setCell_same' _ _ _ (by rw [y0]; rfl)), rfl, HEnd.out _ H9.out⟩
      have c3 : ¬ (64 : Int) < (x.length : Int) := by omega
      have c4 : decide ((64 : Int) < (x.length : Int)) = false := decide_eq_false c3
      have HTk : Hid (okTk x = true) := Lib.hid (tk_of (by omega))
      clear hc1 hc3
      go_wp2
      clear x0 c1 c2 c3 c4 u0
      go_loopw [13] (fun i wr2 => ∃ (q : Nat), q ≤ j ∧ i = .int .i64 q ∧ Hid (Below V3.heap.size V3 wr2 ∧ ∀ y ∈ l.take q, y ≠ x)) (fun i _ => j - (intOf i).toNat)
      case atStart => exact ⟨0, by omega, rfl, Lib.hid ⟨HJ.out.1, fun y hy => by simp at hy⟩⟩
      case round =>
        obtain ⟨q, hq, rfl, HQ⟩ := hrel
        have i0 : (0 : Int) ≤ (q : Int) := by omega
        have HLq := Lib.hid ((HO3.out.later HQ.out.1).low)
        by_cases hqj : q < j
        · have i1 : (q : Int) < (j : Int) := by omega
          have i2 : (q : Int) < (n : Int) := by omega
          obtain ⟨y, hy⟩ : ∃ y, l[q]? = some y := ⟨_, List.getElem?_eq_getElem (by rw [HNl.out]; omega)⟩
          obtain ⟨lb2, lo2, hlb, z1⟩ := strs_at HR.out hy
          cases hlb
          have x0 := old_cell HZ.out HLq.out
          have x1 := old_cell z1 HLq.out
          have HY := Lib.hid hy
          have q1 := str_eql 9 y x
          clear hy z1
          cases e1 : y == x with
          | true =>
            rw [e1] at q1
            clear e1
            go_wp2
            refine wp_only ?_
            go_quiet (fail)
            simp only [onlyK]
            go_wp2_with (go_at_call 18; refine (HA.out _).mono ?_; rintro e V9 ⟨rfl, hb⟩; have H9 := Lib.hid (((HLq.out.trans (below_drewN _ nq |>.mono HLq.out.size))).trans (hb.mono ((HLq.out.trans (below_drewN _ nq |>.mono HLq.out.size))).size)); obtain ⟨y0, y1⟩ := HX.out _ H9.out; clear hb)
            exact leave_none ⟨_, results_bool rfl _ _ w.heap.size (.bool true) rfl (World.cell?_setCell_same' _ _ _ (by rw [y0]; rfl)), rfl, HEnd.out _ H9.out⟩
          | false =>
            rw [e1] at q1
            go_wp2
            refine wp_only ?_
            go_quiet (fail)
            simp only [onlyK]
            go_wp2
            go_roundw
            case rel =>
              refine ⟨q + 1, by omega, by go_num, Lib.hid ⟨HQ.out.1.trans (below_drewN _ nq |>.mono HQ.out.1.size), fun y' hy' => ?_⟩⟩
              rw [take_snoc HY.out] at hy'
              rcases List.mem_append.1 hy' with h | h
              · exact HQ.out.2 y' h
              · have : y' = y := by simpa using h
                subst this
                exact fun e => by rw [e] at e1; simp at e1
            case measure => simp [intOf]; omega
        · obtain rfl : q = j := by omega
          have i1 : ¬ (q : Int) < (q : Int) := by omega
          go_wp2
          go_roundw
          case rel =>
            refine ⟨q + 1, by omega, by go_num, Lib.hid ⟨HQ.out.1, ?_, ?_⟩⟩
            · rw [take_snoc HXx.out]
              intro y hy
              rcases List.mem_append.1 hy with h | h
              · exact HJ.out.2.1 y h
              · have : y = x := by simpa using h
                rw [this]; exact HTk.out
            · rw [take_snoc HXx.out]
              refine List.nodup_append.2 ⟨HJ.out.2.2, by simp, fun y hy z hz => ?_⟩
              have : z = x := by simpa using hz
              rw [this]
              exact HQ.out.2 y hy
          case measure => simp [intOf]; omega
    · obtain rfl : j = n := by omega
      have j1 : ¬ (j : Int) < (j : Int) := by omega
      have HTk : Hid (∀ x ∈ l, okTk x = true) := Lib.hid (by have := HJ.out.2.1; rwa [List.take_of_length_le (by rw [HNl.out]; exact Nat.le_refl _)] at this)
      have HNd : Hid (l.Nodup) := Lib.hid (by have := HJ.out.2.2; rwa [List.take_of_length_le (by rw [HNl.out]; exact Nat.le_refl _)] at this)
      have HO4 : Hid (Own W.heap.size W [CellsR u [.int .i64 j], TreeR b o [], TreeR d o []] wr) := Lib.hid ((HO3.out.later HJ.out.1).perm (List.Perm.cons _ (.swap _ _ [])))
      obtain ⟨mm, HMM⟩ : ∃ mm : Nat, Hid (1 ≤ j → mm < j ∧ ∃ (r1 : Int) (r2 : Nat), from_.tmod (j : Int) = r1 ∧ -(j : Int) < r1 ∧ r1 < j ∧ r1 + (j : Int) = (r2 : Int) ∧ r2 < 2 * j ∧ (r2 : Int).tmod (j : Int) = (mm : Int)) := by
        by_cases h : 1 ≤ j
        · obtain ⟨r1, r2, mm, t1, t2, t3, t4, t5, t6, t7⟩ := tmod_mm from_ j h
          exact ⟨mm, Lib.hid (fun _ => ⟨t7, r1, r2, t1, t2, t3, t4, t5, t6⟩)⟩
        · exact ⟨0, Lib.hid (fun h' => absurd h' h)⟩
      go_wp2
      clear u0
      go_loopw [14] (fun i wr2 => ∃ (q : Nat), q ≤ j ∧ i = .int .i64 q ∧ Hid (Own W.heap.size W [CellsR u [.int .i64 j], TreeR b o (insAll (l.take q)), TreeR d o (insAll ((rot l mm).take q))] wr2)) (fun i _ => j - (intOf i).toNat)
      case atStart => exact ⟨0, by omega, rfl, Lib.hid (by rw [List.take_zero, List.take_zero]; exact HO4.out)⟩
      case round =>
        obtain ⟨q, hq, rfl, HQ⟩ := hrel
        have i0 : (0 : Int) ≤ (q : Int) := by omega
        have u0 := own_cell HQ.out (i := 0) rfl
        by_cases hqj : q < j
        · have i1 : (q : Int) < (j : Int) := by omega
          obtain ⟨hmm, r1, r2, t1, t2, t3, t4, t5, t6⟩ := HMM.out (by omega)
          obtain ⟨x, hx⟩ : ∃ x, l[q]? = some x := ⟨_, List.getElem?_eq_getElem (by rw [HNl.out]; exact hqj)⟩
          have hrt := rot_at (l := l) (m := mm) (i := q) (by rw [HNl.out]; exact hmm) (by rw [HNl.out]; exact hqj)
          rw [HNl.out] at hrt
          have hvj : (mm + q) % j < j := Nat.mod_lt _ (by omega)
          have t9 : (((mm + q : Nat) : Int)).tmod (j : Int) = (((mm + q) % j : Nat) : Int) := by rw [Int.tmod_eq_emod_of_nonneg (by omega)]; omega
          obtain ⟨v, hv2⟩ : ∃ v, (mm + q) % j = v := ⟨_, rfl⟩
          obtain ⟨s2, hs2⟩ : ∃ s, mm + q = s := ⟨_, rfl⟩
          rw [hv2] at hrt hvj t9
          rw [hs2] at t9
          obtain ⟨y, hy⟩ : ∃ y, l[v]? = some y := ⟨_, List.getElem?_eq_getElem (by rw [HNl.out]; exact hvj)⟩
          rw [hy] at hrt
          obtain ⟨lb, lo, hla, z0⟩ := strs_at HR.out hx
          subst hla
          obtain ⟨lb2, lo2, hlb, z1⟩ := strs_at HR.out hy
          cases hlb
          have x0 := old_cell z0 HQ.out.low
          have HZ := Lib.hid z1
          have HXx := Lib.hid hx
          have HYy := Lib.hid hrt
          have HrNd : Hid ((rot l mm).Nodup) := Lib.hid ((rot_perm l mm).nodup_iff.2 HNd.out)
          have HP1 := Lib.hid (own_putNew (HQ.out.perm permA3) (by rw [insAll_len (HNd.out.sublist (List.take_sublist _ _)), List.length_take]; omega) (HTk.out x (List.mem_of_getElem? hx)) (insAll_get (nodup_fresh HNd.out hx)))
          have HP2 := Lib.hid (fun (V : World) (X : List Rs) (h : Own W.heap.size W (TreeR d o (insAll ((rot l mm).take q)) :: X) V) => own_putNew h (by rw [insAll_len (HrNd.out.sublist (List.take_sublist _ _)), List.length_take]; omega) (HTk.out y (List.mem_of_getElem? hy)) (insAll_get (nodup_fresh HrNd.out hrt)))
          have e0 : ¬ j = 0 := by omega
          have e4 : (mm : Int) + (q : Int) = (s2 : Int) := by omega
          have w1 : IntKind.i64.wrap (r2 : Int) = (r2 : Int) := i64_in _ (by omega) (by omega)
          have w2 : IntKind.i64.wrap (s2 : Int) = (s2 : Int) := i64_in _ (by omega) (by omega)
          have v0 : (0 : Int) ≤ (v : Int) := by omega
          have v1 : (v : Int) < (j : Int) := by omega
          have tok5 : True := trivial
          clear hx hy hrt z0 z1 hv2 hs2
          go_wp2_with (go_at_call 19; refine HP1.out.mono ?_; rintro e V6 ⟨rfl, h6⟩; have H6 := Lib.hid h6; have u1 := own_cell (h6.perm permA3') (i := 0) rfl; have y1 := old_cell HZ.out h6.low; clear h6)
          refine wp_only ?_
          refine wp_region_held_drew (S := (fun V => V.cell? ⟨u, 0, none⟩ = some (.int .i64 j) ∧ V.cell? ⟨lb, lo + v, none⟩ = some (.string ⟨y.toArray⟩))) (by kernel_rfl) ⟨u1, y1⟩ (fun hH0a => ?_)
          refine wpAnyH_take (i := 0) (v := ?va0) rfl (by kernel_rfl) (by kernel_rfl) (by kernel_rfl) (fun _ _ _ h => h) (Or.inl ⟨by rfl, ?hya0⟩) hH0a ?resta0
          case hya0 => (intro Wx hSw; (try dsimp only at hSw); go_simp; all_goals (with_reducible rfl))
          try simp only [List.getElem_toArray, List.getElem_cons_succ, List.getElem_cons_zero, Act.put, List.setIfInBounds_toArray, List.set_cons_zero, List.set_cons_succ]
          refine wpAnyH_take (i := 1) (v := ?va1) rfl (by kernel_rfl) (by kernel_rfl) (by kernel_rfl) (fun _ _ _ h => h) (Or.inl ⟨by rfl, ?hya1⟩) hH0a ?resta1
          case hya1 => (intro Wx hSw; (try dsimp only at hSw); go_simp; all_goals (with_reducible rfl))
          try simp only [List.getElem_toArray, List.getElem_cons_succ, List.getElem_cons_zero, Act.put, List.setIfInBounds_toArray, List.set_cons_zero, List.set_cons_succ]
          refine wpAnyH_take (i := 2) (v := ?va2) rfl (by kernel_rfl) (by kernel_rfl) (by kernel_rfl) (fun _ _ _ h => h) (Or.inl ⟨by rfl, ?hya2⟩) hH0a ?resta2
          case hya2 => (intro Wx hSw; (try dsimp only at hSw); go_simp; all_goals (with_reducible rfl))
          try simp only [List.getElem_toArray, List.getElem_cons_succ, List.getElem_cons_zero, Act.put, List.setIfInBounds_toArray, List.set_cons_zero, List.set_cons_succ]
          refine wpAnyH_take (i := 3) (v := ?va3) rfl (by kernel_rfl) (by kernel_rfl) (by kernel_rfl) (fun _ _ _ h => h) (Or.inl ⟨by rfl, ?hya3⟩) hH0a ?resta3
          case hya3 => (intro Wx hSw; (try dsimp only at hSw); go_simp; all_goals (with_reducible rfl))
          try simp only [List.getElem_toArray, List.getElem_cons_succ, List.getElem_cons_zero, Act.put, List.setIfInBounds_toArray, List.set_cons_zero, List.set_cons_succ]
          refine wpAnyH_take (i := 4) (v := ?va4) rfl (by kernel_rfl) (by kernel_rfl) (by kernel_rfl) (fun _ _ _ h => h) (Or.inl ⟨by rfl, ?hya4⟩) hH0a ?resta4
          case hya4 => (intro Wx hSw; (try dsimp only at hSw); go_simp; all_goals (with_reducible rfl))
          try simp only [List.getElem_toArray, List.getElem_cons_succ, List.getElem_cons_zero, Act.put, List.setIfInBounds_toArray, List.set_cons_zero, List.set_cons_succ]
          refine wpAnyH_take (i := 5) (v := ?va5) rfl (by kernel_rfl) (by kernel_rfl) (by kernel_rfl) (fun _ _ _ h => h) (Or.inl ⟨by rfl, ?hya5⟩) hH0a ?resta5
          case hya5 => (intro Wx hSw; (try dsimp only at hSw); go_simp; all_goals (with_reducible rfl))
          try simp only [List.getElem_toArray, List.getElem_cons_succ, List.getElem_cons_zero, Act.put, List.setIfInBounds_toArray, List.set_cons_zero, List.set_cons_succ]
          refine wpAnyH_take (i := 6) (v := ?va6) rfl (by kernel_rfl) (by kernel_rfl) (by kernel_rfl) (fun _ _ _ h => h) (Or.inl ⟨by rfl, ?hya6⟩) hH0a ?resta6
          case hya6 => (intro Wx hSw; (try dsimp only at hSw); go_simp; all_goals (with_reducible rfl))
          try simp only [List.getElem_toArray, List.getElem_cons_succ, List.getElem_cons_zero, Act.put, List.setIfInBounds_toArray, List.set_cons_zero, List.set_cons_succ]
          refine wpAnyH_take (i := 7) (v := ?va7) rfl (by kernel_rfl) (by kernel_rfl) (by kernel_rfl) (fun _ _ _ h => h) (Or.inl ⟨by rfl, ?hya7⟩) hH0a ?resta7
          case hya7 => (intro Wx hSw; (try dsimp only at hSw); go_simp; all_goals (with_reducible rfl))
          try simp only [List.getElem_toArray, List.getElem_cons_succ, List.getElem_cons_zero, Act.put, List.setIfInBounds_toArray, List.set_cons_zero, List.set_cons_succ]
          refine wpAnyH_take (i := 8) (v := ?va8) rfl (by kernel_rfl) (by kernel_rfl) (by kernel_rfl) (fun _ _ _ h => h) (Or.inl ⟨by rfl, ?hya8⟩) hH0a ?resta8
          case hya8 => (intro Wx hSw; (try dsimp only at hSw); go_simp; all_goals (with_reducible rfl))
          try simp only [List.getElem_toArray, List.getElem_cons_succ, List.getElem_cons_zero, Act.put, List.setIfInBounds_toArray, List.set_cons_zero, List.set_cons_succ]
          refine wpAnyH_take (i := 9) (v := ?va9) rfl (by kernel_rfl) (by kernel_rfl) (by kernel_rfl) (fun _ _ _ h => h) (Or.inl ⟨by rfl, ?hya9⟩) hH0a ?resta9
          case hya9 => (intro Wx hSw; (try dsimp only at hSw); go_simp; all_goals (with_reducible rfl))
          try simp only [List.getElem_toArray, List.getElem_cons_succ, List.getElem_cons_zero, Act.put, List.setIfInBounds_toArray, List.set_cons_zero, List.set_cons_succ]
          refine wpAnyH_take (i := 10) (v := ?va10) rfl (by kernel_rfl) (by kernel_rfl) (by kernel_rfl) (fun _ _ _ h => h) (Or.inl ⟨by rfl, ?hya10⟩) hH0a ?resta10
          case hya10 => (intro Wx hSw; (try dsimp only at hSw); go_simp; all_goals (with_reducible rfl))
          try simp only [List.getElem_toArray, List.getElem_cons_succ, List.getElem_cons_zero, Act.put, List.setIfInBounds_toArray, List.set_cons_zero, List.set_cons_succ]
          refine wpAnyH_take (i := 11) (v := ?va11) rfl (by kernel_rfl) (by kernel_rfl) (by kernel_rfl) (fun _ _ _ h => h) (Or.inl ⟨by rfl, ?hya11⟩) hH0a ?resta11
          case hya11 => (intro Wx hSw; (try dsimp only at hSw); go_simp; all_goals (with_reducible rfl))
          try simp only [List.getElem_toArray, List.getElem_cons_succ, List.getElem_cons_zero, Act.put, List.setIfInBounds_toArray, List.set_cons_zero, List.set_cons_succ]
          refine wpAnyH_take (i := 12) (v := ?va12) rfl (by kernel_rfl) (by kernel_rfl) (by kernel_rfl) (fun _ _ _ h => h) (Or.inl ⟨by rfl, ?hya12⟩) hH0a ?resta12
          case hya12 => (intro Wx hSw; (try dsimp only at hSw); go_simp; all_goals (with_reducible rfl))
          try simp only [List.getElem_toArray, List.getElem_cons_succ, List.getElem_cons_zero, Act.put, List.setIfInBounds_toArray, List.set_cons_zero, List.set_cons_succ]
          refine wpAnyH_take (i := 13) (v := ?va13) rfl (by kernel_rfl) (by kernel_rfl) (by kernel_rfl) (fun _ _ _ h => h) (Or.inl ⟨by rfl, ?hya13⟩) hH0a ?resta13
          case hya13 => (intro Wx hSw; (try dsimp only at hSw); go_simp; all_goals (with_reducible rfl))
          try simp only [List.getElem_toArray, List.getElem_cons_succ, List.getElem_cons_zero, Act.put, List.setIfInBounds_toArray, List.set_cons_zero, List.set_cons_succ]
          refine wpAnyH_take (i := 14) (v := ?va14) rfl (by kernel_rfl) (by kernel_rfl) (by kernel_rfl) (fun _ _ _ h => h) (Or.inl ⟨by rfl, ?hya14⟩) hH0a ?resta14
          case hya14 => (intro Wx hSw; (try dsimp only at hSw); go_simp; all_goals (with_reducible rfl))
          try simp only [List.getElem_toArray, List.getElem_cons_succ, List.getElem_cons_zero, Act.put, List.setIfInBounds_toArray, List.set_cons_zero, List.set_cons_succ]
          refine wpAnyH_ready (rs := [15]) (by kernel_rfl) (by simp) ?_
          refine AllReadyH.cons rfl (fun K hK => ?_) AllReadyH.nil
          simp only [List.getElem_toArray, List.getElem_cons_succ, List.getElem_cons_zero]
          go_simp
          (go_at_call 19; refine (HP2.out _ _ ((H6.out.swap).later (Below.refl _ _).drew)).mono ?_; rintro e V7 ⟨rfl, h7⟩; have H7 := Lib.hid h7; have u2 := own_cell (h7.perm permA3') (i := 0) rfl; have y2 := old_cell HZ.out h7.low; clear h7)
          refine hK.out _ _ (⟨u2, y2⟩) (fun hH1a => ?_)
          clear hK K hH0a
          try simp only [List.getElem_toArray, List.getElem_cons_succ, List.getElem_cons_zero, Act.put, List.setIfInBounds_toArray, List.set_cons_zero, List.set_cons_succ]
          refine wpAnyH_take (i := 16) (v := ?va16) rfl (by kernel_rfl) (by kernel_rfl) (by kernel_rfl) (fun _ _ _ h => h) (Or.inl ⟨by rfl, ?hya16⟩) hH1a ?resta16
          case hya16 => (intro Wx hSw; (try dsimp only at hSw); go_simp; all_goals (with_reducible rfl))
          try simp only [List.getElem_toArray, List.getElem_cons_succ, List.getElem_cons_zero, Act.put, List.setIfInBounds_toArray, List.set_cons_zero, List.set_cons_succ]
          refine wpAnyH_take (i := 17) (v := ?va17) rfl (by kernel_rfl) (by kernel_rfl) (by kernel_rfl) (fun _ _ _ h => h) (Or.inl ⟨by rfl, ?hya17⟩) hH1a ?resta17
          case hya17 => (intro Wx hSw; (try dsimp only at hSw); go_simp; all_goals (with_reducible rfl))
          try simp only [List.getElem_toArray, List.getElem_cons_succ, List.getElem_cons_zero, Act.put, List.setIfInBounds_toArray, List.set_cons_zero, List.set_cons_succ]
          refine wpAnyH_take (i := 18) (v := ?va18) rfl (by kernel_rfl) (by kernel_rfl) (by kernel_rfl) (fun _ _ _ h => h) (Or.inl ⟨by rfl, ?hya18⟩) hH1a ?resta18
          case hya18 => (intro Wx hSw; (try dsimp only at hSw); go_simp; all_goals (with_reducible rfl))
          try simp only [List.getElem_toArray, List.getElem_cons_succ, List.getElem_cons_zero, Act.put, List.setIfInBounds_toArray, List.set_cons_zero, List.set_cons_succ]
          refine wpAnyH_take (i := 19) (v := ?va19) rfl (by kernel_rfl) (by kernel_rfl) (by kernel_rfl) (fun _ _ _ h => h) (Or.inl ⟨by rfl, ?hya19⟩) hH1a ?resta19
          case hya19 => (intro Wx hSw; (try dsimp only at hSw); go_simp; all_goals (with_reducible rfl))
          try simp only [List.getElem_toArray, List.getElem_cons_succ, List.getElem_cons_zero, Act.put, List.setIfInBounds_toArray, List.set_cons_zero, List.set_cons_succ]
          refine wpAnyH_take (i := 20) (v := ?va20) rfl (by kernel_rfl) (by kernel_rfl) (by kernel_rfl) (fun _ _ _ h => h) (Or.inl ⟨by rfl, ?hya20⟩) hH1a ?resta20
          case hya20 => (intro Wx hSw; (try dsimp only at hSw); go_simp; all_goals (with_reducible rfl))
          try simp only [List.getElem_toArray, List.getElem_cons_succ, List.getElem_cons_zero, Act.put, List.setIfInBounds_toArray, List.set_cons_zero, List.set_cons_succ]
          refine wpAnyH_take (i := 21) (v := ?va21) rfl (by kernel_rfl) (by kernel_rfl) (by kernel_rfl) (fun _ _ _ h => h) (Or.inl ⟨by rfl, ?hya21⟩) hH1a ?resta21
          case hya21 => (intro Wx hSw; (try dsimp only at hSw); go_simp; all_goals (with_reducible rfl))
          try simp only [List.getElem_toArray, List.getElem_cons_succ, List.getElem_cons_zero, Act.put, List.setIfInBounds_toArray, List.set_cons_zero, List.set_cons_succ]
          refine wpAnyH_take (i := 22) (v := ?va22) rfl (by kernel_rfl) (by kernel_rfl) (by kernel_rfl) (fun _ _ _ h => h) (Or.inl ⟨by rfl, ?hya22⟩) hH1a ?resta22
          case hya22 => (intro Wx hSw; (try dsimp only at hSw); go_simp; all_goals (with_reducible rfl))
          try simp only [List.getElem_toArray, List.getElem_cons_succ, List.getElem_cons_zero, Act.put, List.setIfInBounds_toArray, List.set_cons_zero, List.set_cons_succ]
          refine wpAnyH_done (by kernel_rfl) ?_ _
          simp only [onlyK]
          go_wp2
          go_roundw
          case rel =>
            refine ⟨q + 1, by omega, by go_num, Lib.hid ?_⟩
            rw [take_snoc HXx.out, take_snoc HYy.out, insAll_snoc, insAll_snoc]
            exact H7.out.perm permA7
          case measure => simp [intOf]; omega
        · obtain rfl : q = j := by omega
          have i1 : ¬ (q : Int) < (q : Int) := by omega
          have HO5 : Hid (Own W.heap.size W [TreeR b o (insAll l), TreeR d o (insAll l), CellsR u [.int .i64 q]] wr) := Lib.hid (by
            have h := HQ.out
            rw [List.take_of_length_le (by rw [HNl.out]; exact Nat.le_refl _), List.take_of_length_le (by rw [(rot_perm l mm).length_eq, HNl.out]; exact Nat.le_refl _), rot_all] at h
            exact h.perm permA3)
          have HLn : Hid ((insAll l).length = q) := Lib.hid (by rw [insAll_len HNd.out, HNl.out])
          obtain ⟨L, hL⟩ : ∃ L, insAll l = L := ⟨_, rfl⟩
          rw [hL] at HO5 HLn
          have hq100 : q ≤ 100 := by omega
          have HUge : Hid (W.heap.size ≤ u) := Lib.hid (by
            obtain ⟨F, hR, hF⟩ := (HO5.out.perm permA3').get
            exact hF u 0 ((hR.1 u 0).2 rfl))
          clear hL
          obtain ⟨r, hr⟩ : ∃ r, wr.heap.size = r := ⟨_, rfl⟩
          obtain ⟨W2, hW2⟩ : ∃ W2, (wr.alloc (.cells #[.slice none 0 0] 33)).alloc (.cells #[.pointer (some ⟨r, 0, none⟩)] 30) = W2 := ⟨_, rfl⟩
          have hb2 : Below wr.heap.size wr W2 := by rw [← hW2]; exact (al1 wr _).trans ((al1 (wr.alloc (.cells #[.slice none 0 0] 33)) _).mono (by simp))
          have HC : Hid (W2.cell? ⟨r, 0, none⟩ = some (.slice none 0 0) ∧ W2.frozen? ⟨r, 0, none⟩ = false ∧ W2.cell? ⟨r + 1, 0, none⟩ = some (.pointer (some ⟨r, 0, none⟩)) ∧ W2.heap.size = r + 2) := Lib.hid (by rw [← hW2, ← hr]; simp)
          have HAll := Lib.hid (own_all_new (HO5.out.later hb2) (by have := HLn.out; omega))
          have HB2 := Lib.hid hb2
          have q0 := fun x y w => eql_func_nil Try.underlying35 (.func 46) x y w
          clear hb2
          go_wp2_with (go_at_call 20; refine HAll.out.mono ?_; rintro e V ⟨Bx, a2, c2, rfl, g1, g2, g3, g4, g5⟩; have HV := Lib.hid (And.intro g1 (And.intro g2 (And.intro g3 (And.intro g4 g5)))); clear g1 g2 g3 g4 g5)
          clear hW2
          have HCV : Hid (V.cell? ⟨r, 0, none⟩ = some (.slice none 0 0) ∧ V.frozen? ⟨r, 0, none⟩ = false ∧ V.cell? ⟨r + 1, 0, none⟩ = some (.pointer (some ⟨r, 0, none⟩)) ∧ r + 2 ≤ V.heap.size) := Lib.hid (by
            obtain ⟨h1, h2, h3, h4⟩ := HC.out
            obtain ⟨_, _, k3, _⟩ := HV.out
            have := k3.size
            exact ⟨old_cell h1 k3, (k3.frozen (p := ⟨r, 0, none⟩) (block_of_cell h1)).trans h2, old_cell h3 k3, by omega⟩)
          have HRR : Hid (∀ k, (k = Bx ∨ (L ≠ [] ∧ ∃ x, a2 = some x ∧ k = x.block)) → k < V.heap.size ∧ k ≠ r) := Lib.hid (fun k hk => by
            obtain ⟨k1, k2, k3, k4, k5⟩ := HV.out
            obtain ⟨_, _, _, h4⟩ := HC.out
            have h1 := block_of_cell k1
            simp at h1
            rcases hk with rfl | ⟨hne, x, e, rfl⟩
            · omega
            · have h6 := k5 x e hne
              have h7 := k2.lt x e (pairsV_ne hne)
              omega)
          have HUV : Hid (V.cell? ⟨u, 0, none⟩ = some (.int .i64 q) ∧ u ≠ r) := Lib.hid (by
            have h0 := own_cell (HO5.out.perm permA3') (i := 0) rfl
            have h1 := block_of_cell h0
            exact ⟨old_cell (old_cell h0 HB2.out) HV.out.2.2.1, by simp at h1; omega⟩)
          have HK : Hid (∀ W3, Fr (fun k _ => k = r) V W3 → W3.cell? ⟨r + 1, 0, none⟩ = some (.pointer (some ⟨r, 0, none⟩)) ∧ W3.cell? ⟨u, 0, none⟩ = some (.int .i64 q)) := Lib.hid (fun W3 hf => ⟨cell_fr hf HCV.out.2.2.1 (by omega), cell_fr hf HUV.out.1 HUV.out.2⟩)
          refine (wpIn_wide (n := 3)).1 ?_
          refine' wpIn_range_tells (by omega) (gf := 46) (lb := #[.pointer (some ⟨Bx, 0, none⟩)]) rfl (enters_any Try.func46 (by kernel_rfl) rfl) (encs := prE) (stops := False) (xs := L)
            (R := fun k => k = Bx ∨ (L ≠ [] ∧ ∃ x, a2 = some x ∧ k = x.block)) (K0 := fun _ => False) (fun o1 o2 => ?seq) (fun x => rfl) (fun k hk => (HRR.out k hk).1) (fun k hk => hk.elim)
            (Coll 2 pairsV V r) (fun _ _ _ _ => False) (Coll.clos (by have := HCV.out.2.2.2; omega))
            (fun _ _ _ _ _ _ h _ _ => h) (.inr (fun _ _ _ _ h => h)) (Coll.start (by have := HCV.out.2.2.2; omega) rfl HCV.out.1 HCV.out.2.1)
            _ ?assign ?body ?done ?stop
          case seq =>
            obtain ⟨k1, k2, k3, k4, k5⟩ := HV.out
            have hbo : Below V.heap.size V ((V.alloc o1).alloc o2) := (al1 V o1).trans ((al1 (V.alloc o1) o2).mono (by simp))
            refine all1_tells Bx a2 c2 L _ _ (by have := HLn.out; omega) (old_cell k1 hbo) (k2.later hbo) (.inl rfl) (fun hne x hx => .inr ⟨hne, x, hx, rfl⟩) (fun k hk => ?_)
            have h1 := (HRR.out k hk).1
            have h2 := hbo.size
            omega
          case assign =>
            intro l' x W2 K1 hK1
            simp only [prE]
            gi_wp2
            exact hK1
          case body =>
            rintro l' K pre x post W3 hx _ ⟨F, a3, c3, h1, h2, h3, h4, h5, h6, h7⟩
            obtain ⟨i0, hi, hz0, hz1, hz2⟩ := info_parts Try.infoPairD
            have hn : pre.length + 1 ≤ q := by
              have h8 := HLn.out
              rw [hx] at h8
              simp at h8
              omega
            obtain ⟨m0, m1⟩ := HK.out W3 h6
            have hb3 : Below W3.heap.size W3 ((W3.drew.alloc (.cells #[.string ⟨x.1.toArray⟩, .string ⟨x.2.toArray⟩] 38))) := (Below.refl _ W3).drew.trans (al1 W3.drew _)
            obtain ⟨a4, c4, W4, F4, hrun, g2, g3, g4, g5⟩ := run_app_sl (P := Try.prog) (w := W3.drew.alloc (.cells #[.string ⟨x.1.toArray⟩, .string ⟨x.2.toArray⟩] 38)) 31 31 38 i0 _ 2 32 Try.underlying31 hi hz0 hz1 hz2 rfl (by decide) a3 pre.length c3 (pairsV pre) ((h1.fr (Fr.refl noCells W3).drew (fun _ _ _ h => h)).laid _) (((h2.later (Fr.refl noCells W3).drew)).laid _) (some ⟨W3.heap.size, 0, none⟩) 1 1 [.string ⟨x.1.toArray⟩, .string ⟨x.2.toArray⟩] (Rd.twoNew W3.drew _ _ _ rfl rfl) (by unfold maxLen; omega) (by omega)
            obtain ⟨v0, v1⟩ := Coll.after (by have := HCV.out.2.2.2; omega) h3 h4 h5 hb3 g3
            have v2 : W4.cell? ⟨r + 1, 0, none⟩ = some (.pointer (some ⟨r, 0, none⟩)) := by
              refine cell_fr g3 (old_cell m0 hb3) (fun hF => ?_)
              have := (h3 _ _ hF).1
              have := HCV.out.2.2.2
              omega
            have v3 : W4.cell? ⟨u, 0, none⟩ = some (.int .i64 q) := by
              refine cell_fr g3 (old_cell m1 hb3) (fun hF => ?_)
              have h9 := (h3 _ _ hF).1
              have h10 := block_of_cell HUV.out.1
              simp at h10
              omega
            have HRUN := Lib.hid hrun
            have HST := Lib.hid (Coll.step (V := pairsV) (pre := pre) (x := x) (by have := HCV.out.2.2.2; omega) h2 h3 h6 h7 hb3 (by simpa [pairsV] using g2) g3 g4 g5 (by rw [h4]; rfl) h5 (fun k => k = Bx ∨ (L ≠ [] ∧ ∃ x, a2 = some x ∧ k = x.block)) HRR.out)
            obtain ⟨n, hnn⟩ : ∃ n, pre.length = n := ⟨_, rfl⟩
            have e1 : (pre ++ [x]).length = n + 1 := by simp [hnn]
            rw [e1] at HST
            rw [hnn] at h4 v0 hn HRUN
            have m2 : (W4.setCell ⟨r, 0, none⟩ (.slice a4 (n + 1) c4)).cell? ⟨r + 1, 0, none⟩ = some (.pointer (some ⟨r, 0, none⟩)) := by rw [World.cell?_setCell_other _ _ _ _ (fun e => by have := congrArg Addr.block e; simp at this)]; exact v2
            have m3 : (W4.setCell ⟨r, 0, none⟩ (.slice a4 (n + 1) c4)).cell? ⟨r, 0, none⟩ = some (.slice a4 (n + 1) c4) := World.cell?_setCell_same' _ _ _ (by rw [v0]; rfl)
            have m4 : (W4.setCell ⟨r, 0, none⟩ (.slice a4 (n + 1) c4)).cell? ⟨u, 0, none⟩ = some (.int .i64 q) := by rw [World.cell?_setCell_other _ _ _ _ (fun e => by have h7 := congrArg Addr.block e; have h8 := HUV.out.2; simp at h7; omega)]; exact v3
            have z1 : ¬ (q : Int) < ((n : Int) + 1) := by omega
            have z2 : ¬ (q : Int) < ((n + 1 : Nat) : Int) := by omega
            clear h1 h2 h3 h5 h6 h7 hx hnn hrun g2 g3 g4 g5 e1
            gi_wp2
            refine wpIn_region_till 12 (fun V => V.cell? ⟨r + 1, 0, none⟩ = some (.pointer (some ⟨r, 0, none⟩)) ∧ V.cell? ⟨r, 0, none⟩ = some (.slice a3 n c3)) (by kernel_rfl) (fun ⟨_, _, h⟩ => h) (by kernel_rfl) ⟨m0, h4⟩ (fun hH => ?_)
            refine wpTill_take (i := 0) (v := ?v0) rfl (by kernel_rfl) (by kernel_rfl) (by kernel_rfl) (by kernel_rfl) (fun _ _ _ h => h) rfl ?hy0 hH ?rest0
            case hy0 => (intro Wx hSw; (try dsimp only at hSw); go_simp; all_goals (with_reducible rfl))
            try simp only [List.getElem_toArray, List.getElem_cons_succ, List.getElem_cons_zero, Act.put, List.setIfInBounds_toArray, List.set_cons_zero, List.set_cons_succ]
            refine wpTill_take (i := 1) (v := ?v1) rfl (by kernel_rfl) (by kernel_rfl) (by kernel_rfl) (by kernel_rfl) (fun _ _ _ h => h) rfl ?hy1 hH ?rest1
            case hy1 => (intro Wx hSw; (try dsimp only at hSw); go_simp; all_goals (with_reducible rfl))
            try simp only [List.getElem_toArray, List.getElem_cons_succ, List.getElem_cons_zero, Act.put, List.setIfInBounds_toArray, List.set_cons_zero, List.set_cons_succ]
            refine wpTill_take (i := 2) (v := ?v2) rfl (by kernel_rfl) (by kernel_rfl) (by kernel_rfl) (by kernel_rfl) (fun _ _ _ h => h) rfl ?hy2 hH ?rest2
            case hy2 => (intro Wx hSw; (try dsimp only at hSw); go_simp; all_goals (with_reducible rfl))
            try simp only [List.getElem_toArray, List.getElem_cons_succ, List.getElem_cons_zero, Act.put, List.setIfInBounds_toArray, List.set_cons_zero, List.set_cons_succ]
            refine wpTill_take (i := 3) (v := ?v3) rfl (by kernel_rfl) (by kernel_rfl) (by kernel_rfl) (by kernel_rfl) (fun _ _ _ h => h) rfl ?hy3 hH ?rest3
            case hy3 => (intro Wx hSw; (try dsimp only at hSw); go_simp; all_goals (with_reducible rfl))
            try simp only [List.getElem_toArray, List.getElem_cons_succ, List.getElem_cons_zero, Act.put, List.setIfInBounds_toArray, List.set_cons_zero, List.set_cons_succ]
            refine wpTill_take (i := 4) (v := ?v4) rfl (by kernel_rfl) (by kernel_rfl) (by kernel_rfl) (by kernel_rfl) (fun _ _ _ h => h) rfl ?hy4 hH ?rest4
            case hy4 => (intro Wx hSw; (try dsimp only at hSw); go_simp; all_goals (with_reducible rfl))
            try simp only [List.getElem_toArray, List.getElem_cons_succ, List.getElem_cons_zero, Act.put, List.setIfInBounds_toArray, List.set_cons_zero, List.set_cons_succ]
            refine wpTill_take (i := 5) (v := ?v5) rfl (by kernel_rfl) (by kernel_rfl) (by kernel_rfl) (by kernel_rfl) (fun _ _ _ h => h) rfl ?hy5 hH ?rest5
            case hy5 => (intro Wx hSw; (try dsimp only at hSw); go_simp; all_goals (with_reducible rfl))
            try simp only [List.getElem_toArray, List.getElem_cons_succ, List.getElem_cons_zero, Act.put, List.setIfInBounds_toArray, List.set_cons_zero, List.set_cons_succ]
            refine wpTill_take (i := 6) (v := ?v6) rfl (by kernel_rfl) (by kernel_rfl) (by kernel_rfl) (by kernel_rfl) (fun _ _ _ h => h) rfl ?hy6 hH ?rest6
            case hy6 => (intro Wx hSw; (try dsimp only at hSw); go_simp; all_goals (with_reducible rfl))
            try simp only [List.getElem_toArray, List.getElem_cons_succ, List.getElem_cons_zero, Act.put, List.setIfInBounds_toArray, List.set_cons_zero, List.set_cons_succ]
            refine wpTill_take (i := 7) (v := ?v7) rfl (by kernel_rfl) (by kernel_rfl) (by kernel_rfl) (by kernel_rfl) (fun _ _ _ h => h) rfl ?hy7 hH ?rest7
            case hy7 => (intro Wx hSw; (try dsimp only at hSw); go_simp; all_goals (with_reducible rfl))
            try simp only [List.getElem_toArray, List.getElem_cons_succ, List.getElem_cons_zero, Act.put, List.setIfInBounds_toArray, List.set_cons_zero, List.set_cons_succ]
            refine wpTill_one (i := 8) (by kernel_rfl) rfl rfl (fun K hK => ?_)
            go_simp
            have hH2 := And.intro (old_cell hH.1 (al1 W3.drew (.cells #[.string ⟨x.1.toArray⟩, .string ⟨x.2.toArray⟩] 38))) (old_cell hH.2 (al1 W3.drew (.cells #[.string ⟨x.1.toArray⟩, .string ⟨x.2.toArray⟩] 38)))
            refine hK.out _ _ (fun _ => hH2) ?_
            clear hK K hH; have hH := hH2; clear hH2
            try simp only [List.getElem_toArray, List.getElem_cons_succ, List.getElem_cons_zero, Act.put, List.setIfInBounds_toArray, List.set_cons_zero, List.set_cons_succ]
            refine wpTill_one (i := 9) (by kernel_rfl) rfl rfl (fun K hK => ?_)
            refine wp_appR _ _ 31 31 (by rfl) _ _ (by rfl) (by rfl) HRUN.out ?_
            have hH2 := And.intro v2 v0
            refine hK.out _ _ (fun _ => hH2) ?_
            clear hK K hH; have hH := hH2; clear hH2
            try simp only [List.getElem_toArray, List.getElem_cons_succ, List.getElem_cons_zero, Act.put, List.setIfInBounds_toArray, List.set_cons_zero, List.set_cons_succ]
            refine wpTill_one (i := 10) (by kernel_rfl) rfl rfl (fun K hK => ?_)
            go_simp
            refine hK.out _ _ (fun _ => hH) ?_
            clear hK K
            try simp only [List.getElem_toArray, List.getElem_cons_succ, List.getElem_cons_zero, Act.put, List.setIfInBounds_toArray, List.set_cons_zero, List.set_cons_succ]
            refine wpTill_one (i := 11) (by kernel_rfl) rfl rfl (fun K hK => ?_)
            go_simp
            refine hK.out _ _ (fun _ => hH) ?_
            clear hK K
            try simp only [List.getElem_toArray, List.getElem_cons_succ, List.getElem_cons_zero, Act.put, List.setIfInBounds_toArray, List.set_cons_zero, List.set_cons_succ]
            refine wpTill_one (i := 12) (by kernel_rfl) rfl rfl (fun K hK => ?_)
            go_simp
            refine hK.out _ _ (fun h => absurd rfl h) ?_
            clear hK K
            try simp only [List.getElem_toArray, List.getElem_cons_succ, List.getElem_cons_zero, Act.put, List.setIfInBounds_toArray, List.set_cons_zero, List.set_cons_succ]
            refine wpTill_done (by kernel_rfl) ?_ _
            generalize W4.setCell ⟨r, 0, none⟩ (.slice a4 (n + 1) c4) = W5 at *
            gi_wp2
            refine wpIn_region_still_tail 6 (fun _ => trivial) rfl (fun _ _ _ _ h => calls_round l' h) (by kernel_rfl) (by kernel_rfl) (by kernel_rfl) ?_
            simp only [List.take_succ_cons, List.take_zero, List.drop_succ_cons, List.drop_zero]
            repeat ((with_reducible refine wpStill_step (fun K hK => ?_)); go_simp; (with_reducible refine hK _ ?_); clear hK K)
            with_reducible refine wpStill_nil ?_
            gi_wp2
            exact ⟨HST.out.1.drew, Coll.clos (by have := HCV.out.2.2.2; omega) _ _ _ _ _ HST.out.2 ((Fr.refl _ W5).drew) (fun k hk => .inl hk)⟩
          case stop =>
            intro D c K pre x post W2 _ h
            exact h.elim
          case done =>
            rintro D K W3 ⟨F, a3, c3, h1, h2, h3, h4, h5, h6, h7⟩ _ hKD hsD hDef
            obtain ⟨_, _, k3, _⟩ := HV.out
            have hbV : Below wr.heap.size wr V := HB2.out.trans (k3.mono HB2.out.size)
            have hb3 : Below wr.heap.size wr W3 := hbV.trans (h6.below (B := wr.heap.size) hbV.size (fun k x e => by omega))
            obtain ⟨m0, m1⟩ := HK.out W3 h6
            rw [HLn.out] at h4
            have HO : Hid (Own W.heap.size W (LstR r L :: [TreeR b o L, TreeR d o L, CellsR u [.int .i64 q]]) W3) := Lib.hid (HO5.out.add hb3 (R := LstR r L) (F := lstF r F) ⟨F, a3, c3, ⟨by rw [HLn.out]; exact h4, h5, h1, fun x hx => by have := (h3 _ _ hx).1; have := HCV.out.2.2.2; omega, h2⟩, rfl⟩ (fun k x hx => by
              rcases hx with rfl | hx
              · omega
              · have := (h3 _ _ hx).1; have := hbV.size; omega))
            have HSm := Lib.hid (fun V (hb : Below W3.heap.size W3 V) => own_same ((HO.out.later hb).perm permA8) (by have := HLn.out; omega))
            obtain ⟨hA, gA, eA, hOA⟩ := own_treeG HO.out.swap
            obtain ⟨hB, gB, eB, hOB⟩ := own_treeG (HO.out.perm permA9)
            obtain ⟨FA, ⟨tA, _⟩, _⟩ := hOA.open1
            obtain ⟨FB, ⟨tB, _⟩, _⟩ := hOB.open1
            have HSk1 : Hid (SOk o q (Tr.lv hA [gA])) := Lib.hid (by have h := tA.good.sok (by rw [eA]; have := HLn.out; omega); rwa [eA, HLn.out] at h)
            have HSk2 : Hid (SOk o q (Tr.lv hB [gB])) := Lib.hid (by have h := tB.good.sok (by rw [eB]; have := HLn.out; omega); rwa [eB, HLn.out] at h)
            have HSh1 := Lib.hid (fun V (hb : Below W3.heap.size W3 V) => own_shapeG (hOA.later hb) (by rw [eA]; have := HLn.out; omega))
            have HSh2 := Lib.hid (fun V (hb : Below W3.heap.size W3 V) => own_shapeG (hOB.later hb) (by rw [eB]; have := HLn.out; omega))
            have HSd1 : Hid (∀ V B a c, Shp B V a c (Tr.lv hA [gA]) → Calls Try.prog 22 #[.slice a (hA + 1) c, .int .i64 o, .int .i64 q] V fun e V2 => e = .returned (.bool true) ∧ Below V.heap.size V V2) := Lib.hid (fun V B a c h => by have h2 := shaped_any B o q a c _ HSk1.out V h; rwa [lv_len] at h2)
            have HSd2 : Hid (∀ V B a c, Shp B V a c (Tr.lv hB [gB]) → Calls Try.prog 22 #[.slice a (hB + 1) c, .int .i64 o, .int .i64 q] V fun e V2 => e = .returned (.bool true) ∧ Below V.heap.size V V2) := Lib.hid (fun V B a c h => by have h2 := shaped_any B o q a c _ HSk2.out V h; rwa [lv_len] at h2)
            have HC3 : Hid (∀ V, Below W3.heap.size W3 V → V.cell? ⟨r + 1, 0, none⟩ = some (.pointer (some ⟨r, 0, none⟩)) ∧ V.cell? ⟨r, 0, none⟩ = some (.slice a3 q c3) ∧ V.cell? ⟨u, 0, none⟩ = some (.int .i64 q)) := Lib.hid (fun V hb => ⟨old_cell m0 hb, old_cell h4 hb, old_cell m1 hb⟩)
            have H3 := Lib.hid (And.intro hsD hDef)
            have HLw3 := Lib.hid (fun V (hb : Below W3.heap.size W3 V) => (HO.out.later hb).low)
            clear h1 h2 h3 h5 h6 h7 hKD hsD hDef hbV hb3 k3 eA eB hOA hOB tA tB
            go_wp2
            refine wp_only ?_
            refine wp_region_held_drew (S := (fun V => V.cell? ⟨r + 1, 0, none⟩ = some (.pointer (some ⟨r, 0, none⟩)) ∧ V.cell? ⟨r, 0, none⟩ = some (.slice a3 q c3) ∧ V.cell? ⟨u, 0, none⟩ = some (.int .i64 q))) (by kernel_rfl) ⟨m0, h4, m1⟩ (fun hH0z => ?_)
            refine wpAnyH_take (i := 0) (v := ?vz0) rfl (by kernel_rfl) (by kernel_rfl) (by kernel_rfl) (fun _ _ _ h => h) (Or.inl ⟨by rfl, ?hyz0⟩) hH0z ?restz0
            case hyz0 => (intro Wx hSw; (try dsimp only at hSw); go_simp; all_goals (with_reducible rfl))
            try simp only [List.getElem_toArray, List.getElem_cons_succ, List.getElem_cons_zero, Act.put, List.setIfInBounds_toArray, List.set_cons_zero, List.set_cons_succ]
            refine wpAnyH_take (i := 1) (v := ?vz1) rfl (by kernel_rfl) (by kernel_rfl) (by kernel_rfl) (fun _ _ _ h => h) (Or.inl ⟨by rfl, ?hyz1⟩) hH0z ?restz1
            case hyz1 => (intro Wx hSw; (try dsimp only at hSw); go_simp; all_goals (with_reducible rfl))
            try simp only [List.getElem_toArray, List.getElem_cons_succ, List.getElem_cons_zero, Act.put, List.setIfInBounds_toArray, List.set_cons_zero, List.set_cons_succ]
            refine wpAnyH_take (i := 2) (v := ?vz2) rfl (by kernel_rfl) (by kernel_rfl) (by kernel_rfl) (fun _ _ _ h => h) (Or.inl ⟨by rfl, ?hyz2⟩) hH0z ?restz2
            case hyz2 => (intro Wx hSw; (try dsimp only at hSw); go_simp; all_goals (with_reducible rfl))
            try simp only [List.getElem_toArray, List.getElem_cons_succ, List.getElem_cons_zero, Act.put, List.setIfInBounds_toArray, List.set_cons_zero, List.set_cons_succ]
            refine wpAnyH_take (i := 3) (v := ?vz3) rfl (by kernel_rfl) (by kernel_rfl) (by kernel_rfl) (fun _ _ _ h => h) (Or.inl ⟨by rfl, ?hyz3⟩) hH0z ?restz3
            case hyz3 => (intro Wx hSw; (try dsimp only at hSw); go_simp; all_goals (with_reducible rfl))
            try simp only [List.getElem_toArray, List.getElem_cons_succ, List.getElem_cons_zero, Act.put, List.setIfInBounds_toArray, List.set_cons_zero, List.set_cons_succ]
            refine wpAnyH_take (i := 4) (v := ?vz4) rfl (by kernel_rfl) (by kernel_rfl) (by kernel_rfl) (fun _ _ _ h => h) (Or.inl ⟨by rfl, ?hyz4⟩) hH0z ?restz4
            case hyz4 => (intro Wx hSw; (try dsimp only at hSw); go_simp; all_goals (with_reducible rfl))
            try simp only [List.getElem_toArray, List.getElem_cons_succ, List.getElem_cons_zero, Act.put, List.setIfInBounds_toArray, List.set_cons_zero, List.set_cons_succ]
            refine wpAnyH_take (i := 5) (v := ?vz5) rfl (by kernel_rfl) (by kernel_rfl) (by kernel_rfl) (fun _ _ _ h => h) (Or.inl ⟨by rfl, ?hyz5⟩) hH0z ?restz5
            case hyz5 => (intro Wx hSw; (try dsimp only at hSw); go_simp; all_goals (with_reducible rfl))
            try simp only [List.getElem_toArray, List.getElem_cons_succ, List.getElem_cons_zero, Act.put, List.setIfInBounds_toArray, List.set_cons_zero, List.set_cons_succ]
            refine wpAnyH_take (i := 6) (v := ?vz6) rfl (by kernel_rfl) (by kernel_rfl) (by kernel_rfl) (fun _ _ _ h => h) (Or.inl ⟨by rfl, ?hyz6⟩) hH0z ?restz6
            case hyz6 => (intro Wx hSw; (try dsimp only at hSw); go_simp; all_goals (with_reducible rfl))
            try simp only [List.getElem_toArray, List.getElem_cons_succ, List.getElem_cons_zero, Act.put, List.setIfInBounds_toArray, List.set_cons_zero, List.set_cons_succ]
            refine wpAnyH_take (i := 7) (v := ?vz7) rfl (by kernel_rfl) (by kernel_rfl) (by kernel_rfl) (fun _ _ _ h => h) (Or.inl ⟨by rfl, ?hyz7⟩) hH0z ?restz7
            case hyz7 => (intro Wx hSw; (try dsimp only at hSw); go_simp; all_goals (with_reducible rfl))
            try simp only [List.getElem_toArray, List.getElem_cons_succ, List.getElem_cons_zero, Act.put, List.setIfInBounds_toArray, List.set_cons_zero, List.set_cons_succ]
            refine wpAnyH_take (i := 8) (v := ?vz8) rfl (by kernel_rfl) (by kernel_rfl) (by kernel_rfl) (fun _ _ _ h => h) (Or.inl ⟨by rfl, ?hyz8⟩) hH0z ?restz8
            case hyz8 => (intro Wx hSw; (try dsimp only at hSw); go_simp; all_goals (with_reducible rfl))
            try simp only [List.getElem_toArray, List.getElem_cons_succ, List.getElem_cons_zero, Act.put, List.setIfInBounds_toArray, List.set_cons_zero, List.set_cons_succ]
            refine wpAnyH_take (i := 9) (v := ?vz9) rfl (by kernel_rfl) (by kernel_rfl) (by kernel_rfl) (fun _ _ _ h => h) (Or.inl ⟨by rfl, ?hyz9⟩) hH0z ?restz9
            case hyz9 => (intro Wx hSw; (try dsimp only at hSw); go_simp; all_goals (with_reducible rfl))
            try simp only [List.getElem_toArray, List.getElem_cons_succ, List.getElem_cons_zero, Act.put, List.setIfInBounds_toArray, List.set_cons_zero, List.set_cons_succ]
            refine wpAnyH_ready (rs := [10]) (by kernel_rfl) (by simp) ?_
            refine AllReadyH.cons rfl (fun K hK => ?_) AllReadyH.nil
            simp only [List.getElem_toArray, List.getElem_cons_succ, List.getElem_cons_zero]
            go_simp
            (go_at_call 21; refine (HSm.out _ (Below.refl _ _).drew).mono ?_; rintro e V8 ⟨rfl, hb⟩; have b8 := Lib.hid ((Below.refl W3.heap.size W3).drew.trans hb); clear hb)
            refine hK.out _ _ (HC3.out _ b8.out) (fun hH1z => ?_)
            clear hK K hH0z
            try simp only [List.getElem_toArray, List.getElem_cons_succ, List.getElem_cons_zero, Act.put, List.setIfInBounds_toArray, List.set_cons_zero, List.set_cons_succ]
            refine wpAnyH_take (i := 11) (v := ?vz11) rfl (by kernel_rfl) (by kernel_rfl) (by kernel_rfl) (fun _ _ _ h => h) (Or.inl ⟨by rfl, ?hyz11⟩) hH1z ?restz11
            case hyz11 => (intro Wx hSw; (try dsimp only at hSw); go_simp; all_goals (with_reducible rfl))
            try simp only [List.getElem_toArray, List.getElem_cons_succ, List.getElem_cons_zero, Act.put, List.setIfInBounds_toArray, List.set_cons_zero, List.set_cons_succ]
            refine wpAnyH_take (i := 12) (v := ?vz12) rfl (by kernel_rfl) (by kernel_rfl) (by kernel_rfl) (fun _ _ _ h => h) (Or.inl ⟨by rfl, ?hyz12⟩) hH1z ?restz12
            case hyz12 => (intro Wx hSw; (try dsimp only at hSw); go_simp; all_goals (with_reducible rfl))
            try simp only [List.getElem_toArray, List.getElem_cons_succ, List.getElem_cons_zero, Act.put, List.setIfInBounds_toArray, List.set_cons_zero, List.set_cons_succ]
            refine wpAnyH_take (i := 13) (v := ?vz13) rfl (by kernel_rfl) (by kernel_rfl) (by kernel_rfl) (fun _ _ _ h => h) (Or.inl ⟨by rfl, ?hyz13⟩) hH1z ?restz13
            case hyz13 => (intro Wx hSw; (try dsimp only at hSw); go_simp; all_goals (with_reducible rfl))
            try simp only [List.getElem_toArray, List.getElem_cons_succ, List.getElem_cons_zero, Act.put, List.setIfInBounds_toArray, List.set_cons_zero, List.set_cons_succ]
            refine wpAnyH_take (i := 15) (v := ?vz15) rfl (by kernel_rfl) (by kernel_rfl) (by kernel_rfl) (fun _ _ _ h => h) (Or.inl ⟨by rfl, ?hyz15⟩) hH1z ?restz15
            case hyz15 => (intro Wx hSw; (try dsimp only at hSw); go_simp; all_goals (with_reducible rfl))
            try simp only [List.getElem_toArray, List.getElem_cons_succ, List.getElem_cons_zero, Act.put, List.setIfInBounds_toArray, List.set_cons_zero, List.set_cons_succ]
            refine wpAnyH_take (i := 16) (v := ?vz16) rfl (by kernel_rfl) (by kernel_rfl) (by kernel_rfl) (fun _ _ _ h => h) (Or.inl ⟨by rfl, ?hyz16⟩) hH1z ?restz16
            case hyz16 => (intro Wx hSw; (try dsimp only at hSw); go_simp; all_goals (with_reducible rfl))
            try simp only [List.getElem_toArray, List.getElem_cons_succ, List.getElem_cons_zero, Act.put, List.setIfInBounds_toArray, List.set_cons_zero, List.set_cons_succ]
            refine wpAnyH_ready (rs := [14]) (by kernel_rfl) (by simp) ?_
            refine AllReadyH.cons rfl (fun K hK => ?_) AllReadyH.nil
            simp only [List.getElem_toArray, List.getElem_cons_succ, List.getElem_cons_zero]
            go_simp
            (go_at_call 23; refine (HSh1.out _ b8.out).mono ?_; rintro e V10 ⟨xa, xc, rfl, q1, hb⟩; have b10 := Lib.hid (b8.out.trans (hb.mono b8.out.size)); have Q1 := Lib.hid q1; clear q1 hb)
            refine hK.out _ _ (HC3.out _ b10.out) (fun hH2z => ?_)
            clear hK K hH1z
            try simp only [List.getElem_toArray, List.getElem_cons_succ, List.getElem_cons_zero, Act.put, List.setIfInBounds_toArray, List.set_cons_zero, List.set_cons_succ]
            refine wpAnyH_ready (rs := [17]) (by kernel_rfl) (by simp) ?_
            refine AllReadyH.cons rfl (fun K hK => ?_) AllReadyH.nil
            simp only [List.getElem_toArray, List.getElem_cons_succ, List.getElem_cons_zero]
            go_simp
            (go_at_call 22; refine (HSd1.out _ _ _ _ Q1.out).mono ?_; rintro e V11 ⟨rfl, hb⟩; have b11 := Lib.hid (b10.out.trans (hb.mono b10.out.size)); clear hb)
            refine hK.out _ _ (HC3.out _ b11.out) (fun hH3z => ?_)
            clear hK K hH2z
            try simp only [List.getElem_toArray, List.getElem_cons_succ, List.getElem_cons_zero, Act.put, List.setIfInBounds_toArray, List.set_cons_zero, List.set_cons_succ]
            refine wpAnyH_take (i := 18) (v := ?vz18) rfl (by kernel_rfl) (by kernel_rfl) (by kernel_rfl) (fun _ _ _ h => h) (Or.inl ⟨by rfl, ?hyz18⟩) hH3z ?restz18
            case hyz18 => (intro Wx hSw; (try dsimp only at hSw); go_simp; all_goals (with_reducible rfl))
            try simp only [List.getElem_toArray, List.getElem_cons_succ, List.getElem_cons_zero, Act.put, List.setIfInBounds_toArray, List.set_cons_zero, List.set_cons_succ]
            refine wpAnyH_take (i := 19) (v := ?vz19) rfl (by kernel_rfl) (by kernel_rfl) (by kernel_rfl) (fun _ _ _ h => h) (Or.inl ⟨by rfl, ?hyz19⟩) hH3z ?restz19
            case hyz19 => (intro Wx hSw; (try dsimp only at hSw); go_simp; all_goals (with_reducible rfl))
            try simp only [List.getElem_toArray, List.getElem_cons_succ, List.getElem_cons_zero, Act.put, List.setIfInBounds_toArray, List.set_cons_zero, List.set_cons_succ]
            refine wpAnyH_take (i := 20) (v := ?vz20) rfl (by kernel_rfl) (by kernel_rfl) (by kernel_rfl) (fun _ _ _ h => h) (Or.inl ⟨by rfl, ?hyz20⟩) hH3z ?restz20
            case hyz20 => (intro Wx hSw; (try dsimp only at hSw); go_simp; all_goals (with_reducible rfl))
            try simp only [List.getElem_toArray, List.getElem_cons_succ, List.getElem_cons_zero, Act.put, List.setIfInBounds_toArray, List.set_cons_zero, List.set_cons_succ]
            refine wpAnyH_take (i := 22) (v := ?vz22) rfl (by kernel_rfl) (by kernel_rfl) (by kernel_rfl) (fun _ _ _ h => h) (Or.inl ⟨by rfl, ?hyz22⟩) hH3z ?restz22
            case hyz22 => (intro Wx hSw; (try dsimp only at hSw); go_simp; all_goals (with_reducible rfl))
            try simp only [List.getElem_toArray, List.getElem_cons_succ, List.getElem_cons_zero, Act.put, List.setIfInBounds_toArray, List.set_cons_zero, List.set_cons_succ]
            refine wpAnyH_take (i := 23) (v := ?vz23) rfl (by kernel_rfl) (by kernel_rfl) (by kernel_rfl) (fun _ _ _ h => h) (Or.inl ⟨by rfl, ?hyz23⟩) hH3z ?restz23
            case hyz23 => (intro Wx hSw; (try dsimp only at hSw); go_simp; all_goals (with_reducible rfl))
            try simp only [List.getElem_toArray, List.getElem_cons_succ, List.getElem_cons_zero, Act.put, List.setIfInBounds_toArray, List.set_cons_zero, List.set_cons_succ]
            refine wpAnyH_ready (rs := [21]) (by kernel_rfl) (by simp) ?_
            refine AllReadyH.cons rfl (fun K hK => ?_) AllReadyH.nil
            simp only [List.getElem_toArray, List.getElem_cons_succ, List.getElem_cons_zero]
            go_simp
            (go_at_call 23; refine (HSh2.out _ b11.out).mono ?_; rintro e V12 ⟨ya, yc, rfl, q1, hb⟩; have b12 := Lib.hid (b11.out.trans (hb.mono b11.out.size)); have Q2 := Lib.hid q1; clear q1 hb)
            refine hK.out _ _ (HC3.out _ b12.out) (fun hH4z => ?_)
            clear hK K hH3z
            try simp only [List.getElem_toArray, List.getElem_cons_succ, List.getElem_cons_zero, Act.put, List.setIfInBounds_toArray, List.set_cons_zero, List.set_cons_succ]
            refine wpAnyH_ready (rs := [24]) (by kernel_rfl) (by simp) ?_
            refine AllReadyH.cons rfl (fun K hK => ?_) AllReadyH.nil
            simp only [List.getElem_toArray, List.getElem_cons_succ, List.getElem_cons_zero]
            go_simp
            (go_at_call 22; refine (HSd2.out _ _ _ _ Q2.out).mono ?_; rintro e V13 ⟨rfl, hb⟩; have b13 := Lib.hid (b12.out.trans (hb.mono b12.out.size)); clear hb)
            refine hK.out _ _ (HC3.out _ b13.out) (fun hH5z => ?_)
            clear hK K hH4z
            try simp only [List.getElem_toArray, List.getElem_cons_succ, List.getElem_cons_zero, Act.put, List.setIfInBounds_toArray, List.set_cons_zero, List.set_cons_succ]
            refine wpAnyH_take (i := 25) (v := ?vz25) rfl (by kernel_rfl) (by kernel_rfl) (by kernel_rfl) (fun _ _ _ h => h) (Or.inl ⟨by rfl, ?hyz25⟩) hH5z ?restz25
            case hyz25 => (intro Wx hSw; (try dsimp only at hSw); go_simp; all_goals (with_reducible rfl))
            try simp only [List.getElem_toArray, List.getElem_cons_succ, List.getElem_cons_zero, Act.put, List.setIfInBounds_toArray, List.set_cons_zero, List.set_cons_succ]
            refine wpAnyH_take (i := 26) (v := ?vz26) rfl (by kernel_rfl) (by kernel_rfl) (by kernel_rfl) (fun _ _ _ h => h) (Or.inl ⟨by rfl, ?hyz26⟩) hH5z ?restz26
            case hyz26 => (intro Wx hSw; (try dsimp only at hSw); go_simp; all_goals (with_reducible rfl))
            try simp only [List.getElem_toArray, List.getElem_cons_succ, List.getElem_cons_zero, Act.put, List.setIfInBounds_toArray, List.set_cons_zero, List.set_cons_succ]
            refine wpAnyH_ready (rs := [27]) (by kernel_rfl) (by simp) ?_
            refine AllReadyH.cons rfl (fun K hK => ?_) AllReadyH.nil
            simp only [List.getElem_toArray, List.getElem_cons_succ, List.getElem_cons_zero]
            go_simp
            (go_at_call 18; refine (HA.out _).mono ?_; rintro e V9 ⟨rfl, hb⟩; have H9 := Lib.hid (b13.out.trans (hb.mono b13.out.size)); clear hb)
            obtain ⟨y0, y1⟩ := HX.out _ (HLw3.out _ H9.out)
            have HCend : Hid ((V9.setCell ⟨w.heap.size, 0, none⟩ (.bool true)).cell? ⟨r + 1, 0, none⟩ = some (.pointer (some ⟨r, 0, none⟩)) ∧ (V9.setCell ⟨w.heap.size, 0, none⟩ (.bool true)).cell? ⟨r, 0, none⟩ = some (.slice a3 q c3) ∧ (V9.setCell ⟨w.heap.size, 0, none⟩ (.bool true)).cell? ⟨u, 0, none⟩ = some (.int .i64 q)) := Lib.hid (by obtain ⟨e1, e2, e3⟩ := HC3.out _ H9.out; have g1 := HUge.out; have g2 := HSz.out; have g3 := HO5.out.size; exact ⟨by rw [World.cell?_setCell_other _ _ _ _ (fun e => by have h7 := congrArg Addr.block e; simp at h7; omega)]; exact e1, by rw [World.cell?_setCell_other _ _ _ _ (fun e => by have h7 := congrArg Addr.block e; simp at h7; omega)]; exact e2, by rw [World.cell?_setCell_other _ _ _ _ (fun e => by have h7 := congrArg Addr.block e; simp at h7; omega)]; exact e3⟩)
            refine hK.out _ _ (HC3.out _ H9.out) (fun hH6z => ?_)
            clear hK K hH5z
            try simp only [List.getElem_toArray, List.getElem_cons_succ, List.getElem_cons_zero, Act.put, List.setIfInBounds_toArray, List.set_cons_zero, List.set_cons_succ]
            refine wpAnyH_take (i := 28) (v := ?vz28) rfl (by kernel_rfl) (by kernel_rfl) (by kernel_rfl) (fun _ _ _ h => h) (Or.inl ⟨by rfl, ?hyz28⟩) hH6z ?restz28
            case hyz28 => (intro Wx hSw; (try dsimp only at hSw); go_simp; all_goals (with_reducible rfl))
            try simp only [List.getElem_toArray, List.getElem_cons_succ, List.getElem_cons_zero, Act.put, List.setIfInBounds_toArray, List.set_cons_zero, List.set_cons_succ]
            refine wpAnyH_ready (rs := [29]) (by kernel_rfl) (by simp) ?_
            refine AllReadyH.cons rfl (fun K hK => ?_) AllReadyH.nil
            simp only [List.getElem_toArray, List.getElem_cons_succ, List.getElem_cons_zero]
            go_simp
            refine hK.out _ _ (HCend.out) (fun hH7z => ?_)
            clear hK K hH6z
            try simp only [List.getElem_toArray, List.getElem_cons_succ, List.getElem_cons_zero, Act.put, List.setIfInBounds_toArray, List.set_cons_zero, List.set_cons_succ]
            refine wpAnyH_done (by kernel_rfl) ?_ _
            simp only [onlyK]
            go_wp2
            obtain ⟨hsD, hDef⟩ := H3.out
            have hDs : D < W3.heap.size := (Array.getElem?_eq_some_iff.1 hDef).1
            have hne : D ≠ w.heap.size := by have := HSz.out; have := HO5.out.size; have := HCV.out.2.2.2; omega
            refine leave_marks [D] _ (by simp) (fun E hE => ?_) (fun W' hf => ?_)
            · simp at hE; subst hE
              exact (Below.heap_setCell V9 ⟨w.heap.size, 0, none⟩ (.bool true) E hne).trans ((H9.out.block E hDs).trans hDef)
            · have hlow := HLw3.out _ H9.out
              have hc : W'.cell? ⟨w.heap.size, 0, none⟩ = some (.bool true) := cell_fr hf (show (V9.setCell ⟨w.heap.size, 0, none⟩ (.bool true)).cell? ⟨w.heap.size, 0, none⟩ = some (.bool true) from World.cell?_setCell_same' _ _ _ (by rw [y0]; rfl)) (by simp; omega)
              refine ⟨_, results_bool rfl _ W' w.heap.size (.bool true) rfl hc, rfl, ?_⟩
              have b4 := HEnd.out _ hlow
              exact b4.trans (hf.below (B := w.heap.size) b4.size (fun k x e => by simp at e; subst e; have := HSz.out; have := HO5.out.size; have := HCV.out.2.2.2; omega))

end Go.Proofs.Ytbempjkkohjnbaa
