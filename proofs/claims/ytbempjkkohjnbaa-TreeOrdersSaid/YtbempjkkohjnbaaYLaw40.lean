/- Joined: Law40. -/
import Derived.Test.YtbempjkkohjnbaaYLaw24
import Derived.Test.YtbempjkkohjnbaaYLaw9
import Derived.Test.YtbempjkkohjnbaaYIter3
import Derived.Test.YtbempjkkohjnbaaYTree34
/- The laws of package tree: TreeOrders. -/
namespace Go.Proofs.Ytbempjkkohjnbaa
open Go.RowKit Tr
open Ky (less)
attribute [local go_sem] Oper.semAt_some
set_option maxHeartbeats 8000000 in
set_option maxRecDepth 100000 in
theorem treeOrders_walk (x y : Int) (a : Option Addr) (c : Nat) (l : List TOp) (w : World) (hr : Rd w 3 a l.length c (topsV l)) (hok : ∀ x ∈ l, OkTop x) :
    Calls Try.prog 7 #[.agg #[.int .i64 x, .int .i64 y], .slice a l.length c] w (Yes w) := by
  have hcap := hr.cap
  have hle := hr.le
  unfold maxLen at hcap
  have HA := Lib.hid (fun W => awake4_any W)
  have hb0 : Below w.heap.size w ((w.alloc (.cells #[.int .i64 x, .int .i64 y] 65)).alloc (.cells #[.bool false] 4)) := (al1 w _).trans ((al1 (w.alloc (.cells #[.int .i64 x, .int .i64 y] 65)) _).mono (by simp))
  obtain ⟨W, hW⟩ : ∃ W, (w.alloc (.cells #[.int .i64 x, .int .i64 y] 65)).alloc (.cells #[.bool false] 4) = W := ⟨_, rfl⟩
  have s1 : W.heap.size = w.heap.size + 2 := by rw [← hW]; simp
  have x0 : W.cell? ⟨w.heap.size, 0, none⟩ = some (.int .i64 x) := by rw [← hW]; simp
  have x1 : W.cell? ⟨w.heap.size, 1, none⟩ = some (.int .i64 y) := by rw [← hW]; simp
  have x2 : W.cell? ⟨w.heap.size + 1, 0, none⟩ = some (.bool false) := by rw [← hW]; simp
  have x3 : W.frozen? ⟨w.heap.size + 1, 0, none⟩ = false := by rw [← hW]; simp
  rw [hW] at hb0
  have HX : Hid (∀ V, Below W.heap.size W V → V.cell? ⟨w.heap.size, 0, none⟩ = some (.int .i64 x) ∧ V.cell? ⟨w.heap.size, 1, none⟩ = some (.int .i64 y) ∧ V.cell? ⟨w.heap.size + 1, 0, none⟩ = some (.bool false) ∧ V.frozen? ⟨w.heap.size + 1, 0, none⟩ = false) := Lib.hid (fun V hb => ⟨old_cell x0 hb, old_cell x1 hb, old_cell x2 hb, (hb.frozen (p := ⟨w.heap.size + 1, 0, none⟩) (block_of_cell x2)).trans x3⟩)
  have HEnd : Hid (∀ V, Below W.heap.size W V → Below w.heap.size w (V.setCell ⟨w.heap.size + 1, 0, none⟩ (.bool true))) := Lib.hid (fun V h => (hb0.trans (h.mono hb0.size)).setCell (p := ⟨w.heap.size + 1, 0, none⟩) (Nat.le_succ _) _)
  have HSz := Lib.hid s1
  have HF := Lib.hid (fun V (h : Below W.heap.size W V) => few_any a c l (by omega) hok V ((hr.later hb0).later h))
  have HR := Lib.hid (hr.later hb0)
  have HN0 := Lib.hid (Own.nil W)
  have tok1 : True := trivial
  clear hb0 s1 hr hok
  by_cases hx : x < 2 ∨ 16 < x
  · have HN1 := Lib.hid (fun W => newT_bad x hx W)
    by_cases hy : y < 2 ∨ 16 < y
    · have HN2 := Lib.hid (fun W => newT_bad y hy W)
      clear hx hy
      refine calls_marks Try.func7 rfl ?_
      simp only [Try.ntmps7, List.size_toArray, List.length_cons, List.length_nil, Nat.reduceAdd, Nat.reduceSub, Array.replicate_succ, Array.replicate_zero, List.push_toArray, List.append_toArray, List.nil_append, List.cons_append]
      refine wpIn_wide.2 ?_
      go_wp2_with (first
        | (go_at_call 17; have _t := tok1; refine (HN1.out _).mono ?_; rintro e V1 ⟨rfl, rfl⟩; clear tok1 _t)
        | (go_at_call 17; refine (HN2.out _).mono ?_; rintro e V2 ⟨rfl, rfl⟩)
        | (go_at_call 18; refine (HA.out _).mono ?_; rintro e V9 ⟨rfl, hb⟩; have H9 := Lib.hid ((Below.refl W.heap.size W).trans (hb.mono (Below.refl W.heap.size W).size)); obtain ⟨_, _, y0, y1⟩ := HX.out _ H9.out; clear hb))
      exact leave_none ⟨_, results_bool rfl _ _ (w.heap.size + 1) (.bool true) rfl (World.cell?_setCell_same' _ _ _ (by rw [y0]; rfl)), rfl, HEnd.out _ H9.out⟩
    · obtain ⟨o2, rfl⟩ : ∃ o : Nat, y = o := ⟨y.toNat, by omega⟩
      have HN2 := Lib.hid (fun L V (h : Own W.heap.size W L V) => own_new o2 (by omega) (by omega) h)
      clear hx hy
      refine calls_marks Try.func7 rfl ?_
      simp only [Try.ntmps7, List.size_toArray, List.length_cons, List.length_nil, Nat.reduceAdd, Nat.reduceSub, Array.replicate_succ, Array.replicate_zero, List.push_toArray, List.append_toArray, List.nil_append, List.cons_append]
      refine wpIn_wide.2 ?_
      go_wp2_with (first
        | (go_at_call 17; have _t := tok1; refine (HN1.out _).mono ?_; rintro e V1 ⟨rfl, rfl⟩; clear tok1 _t)
        | (go_at_call 17; refine (HN2.out _ _ HN0.out).mono ?_; rintro e V2 ⟨d, rfl, h2⟩; have H2 := Lib.hid h2; obtain ⟨z0, z1, z2, z3⟩ := HX.out _ h2.low; clear h2)
        | (go_at_call 18; refine (HA.out _).mono ?_; rintro e V9 ⟨rfl, hb⟩; have H9 := Lib.hid ((H2.out.low).trans (hb.mono (H2.out.low).size)); obtain ⟨_, _, y0, y1⟩ := HX.out _ H9.out; clear hb))
      exact leave_none ⟨_, results_bool rfl _ _ (w.heap.size + 1) (.bool true) rfl (World.cell?_setCell_same' _ _ _ (by rw [y0]; rfl)), rfl, HEnd.out _ H9.out⟩
  obtain ⟨o1, rfl⟩ : ∃ o : Nat, x = o := ⟨x.toNat, by omega⟩
  have HN1 := Lib.hid (fun V (h : Own W.heap.size W [] V) => own_new o1 (by omega) (by omega) h)
  by_cases hy : y < 2 ∨ 16 < y
  · have HN2 := Lib.hid (fun W => newT_bad y hy W)
    clear hx hy
    refine calls_marks Try.func7 rfl ?_
    simp only [Try.ntmps7, List.size_toArray, List.length_cons, List.length_nil, Nat.reduceAdd, Nat.reduceSub, Array.replicate_succ, Array.replicate_zero, List.push_toArray, List.append_toArray, List.nil_append, List.cons_append]
    refine wpIn_wide.2 ?_
    go_wp2_with (first
      | (go_at_call 17; have _t := tok1; refine (HN1.out _ HN0.out).mono ?_; rintro e V1 ⟨b, rfl, h1⟩; have H1 := Lib.hid h1; obtain ⟨y0, y1, y2, y3⟩ := HX.out _ h1.low; clear tok1 _t h1)
      | (go_at_call 17; refine (HN2.out _).mono ?_; rintro e V2 ⟨rfl, rfl⟩)
      | (go_at_call 18; refine (HA.out _).mono ?_; rintro e V9 ⟨rfl, hb⟩; have H9 := Lib.hid ((H1.out.low).trans (hb.mono (H1.out.low).size)); obtain ⟨_, _, y0, y1⟩ := HX.out _ H9.out; clear hb))
    exact leave_none ⟨_, results_bool rfl _ _ (w.heap.size + 1) (.bool true) rfl (World.cell?_setCell_same' _ _ _ (by rw [y0]; rfl)), rfl, HEnd.out _ H9.out⟩
  obtain ⟨o2, rfl⟩ : ∃ o : Nat, y = o := ⟨y.toNat, by omega⟩
  have HN2 := Lib.hid (fun L V (h : Own W.heap.size W L V) => own_new o2 (by omega) (by omega) h)
  by_cases hf : fewL l
  case neg =>
    have hff : decide (fewL l) = false := by simpa using hf
    rw [hff] at HF
    clear hx hy hf hff
    refine calls_marks Try.func7 rfl ?_
    simp only [Try.ntmps7, List.size_toArray, List.length_cons, List.length_nil, Nat.reduceAdd, Nat.reduceSub, Array.replicate_succ, Array.replicate_zero, List.push_toArray, List.append_toArray, List.nil_append, List.cons_append]
    refine wpIn_wide.2 ?_
    go_wp2_with (first
      | (go_at_call 17; have _t := tok1; refine (HN1.out _ HN0.out).mono ?_; rintro e V1 ⟨b, rfl, h1⟩; have H1 := Lib.hid h1; obtain ⟨y0, y1, y2, y3⟩ := HX.out _ h1.low; clear tok1 _t h1)
      | (go_at_call 17; refine (HN2.out _ _ H1.out).mono ?_; rintro e V2 ⟨d, rfl, h2⟩; have H2 := Lib.hid h2; obtain ⟨z0, z1, z2, z3⟩ := HX.out _ h2.low; clear h2)
      | (go_at_call 29; refine (HF.out _ H2.out.low).mono ?_; rintro e V ⟨rfl, rfl⟩)
      | (go_at_call 18; refine (HA.out _).mono ?_; rintro e V9 ⟨rfl, hb⟩; have H9 := Lib.hid ((H2.out.low).trans (hb.mono (H2.out.low).size)); obtain ⟨_, _, y0, y1⟩ := HX.out _ H9.out; clear hb))
    exact leave_none ⟨_, results_bool rfl _ _ (w.heap.size + 1) (.bool true) rfl (World.cell?_setCell_same' _ _ _ (by rw [y0]; rfl)), rfl, HEnd.out _ H9.out⟩
  have hff : decide (fewL l) = true := by simpa using hf
  have hl := hf.2
  rw [hff] at HF
  clear hx hy hf hff
  refine calls_marks Try.func7 rfl ?_
  simp only [Try.ntmps7, List.size_toArray, List.length_cons, List.length_nil, Nat.reduceAdd, Nat.reduceSub, Array.replicate_succ, Array.replicate_zero, List.push_toArray, List.append_toArray, List.nil_append, List.cons_append]
  refine wpIn_wide.2 ?_
  go_wp2_with (first
    | (go_at_call 17; have _t := tok1; refine (HN1.out _ HN0.out).mono ?_; rintro e V1 ⟨b, rfl, h1⟩; have H1 := Lib.hid h1; obtain ⟨y0, y1, y2, y3⟩ := HX.out _ h1.low; clear tok1 _t h1)
    | (go_at_call 17; refine (HN2.out _ _ H1.out).mono ?_; rintro e V2 ⟨d, rfl, h2⟩; have H2 := Lib.hid h2; obtain ⟨z0, z1, z2, z3⟩ := HX.out _ h2.low; clear h2)
    | (go_at_call 29; refine (HF.out _ H2.out.low).mono ?_; rintro e V ⟨rfl, rfl⟩))
  clear y0 y1 y2 y3 z0 z1 z2 z3 x0 x1 x2 x3
  go_loopw [9] (fun i wr => ∃ (j : Nat), j ≤ l.length ∧ i = .int .i64 j ∧ Hid (Own W.heap.size W [TreeR b o1 (runL (l.take j)), TreeR d o2 (runL (l.take j))] wr)) (fun i _ => l.length - (intOf i).toNat)
  case atStart => exact ⟨0, by omega, rfl, Lib.hid H2.out.swap⟩
  case round =>
    obtain ⟨j, hj, rfl, HJ⟩ := hrel
    have k0 : (0 : Int) ≤ (j : Int) := by omega
    by_cases hlt : j < l.length
    · have k1 : (j : Int) < (l.length : Int) := by omega
      obtain ⟨⟨ask, key, v⟩, hx⟩ : ∃ x, l[j]? = some x := ⟨_, List.getElem?_eq_getElem hlt⟩
      obtain ⟨lb, lo, rfl, z0, z1, z2⟩ := top_at HR.out hx
      have x0 := old_cell z0 HJ.out.low
      have x1 := old_cell z1 HJ.out.low
      have x2 := old_cell z2 HJ.out.low
      have HZ := Lib.hid (And.intro z1 z2)
      have HE := Lib.hid (run_succ hx)
      have HLn : Hid ((runL (l.take j)).length ≤ 100000) := Lib.hid (by have := run_len (l.take j); rw [List.length_take] at this; omega)
      obtain ⟨L, hL⟩ : ∃ L, runL (l.take j) = L := ⟨_, rfl⟩
      rw [hL] at HJ HE HLn
      clear hx z0 z1 z2 hL
      by_cases h0 : ask = 0
      · subst h0
        obtain ⟨oo, ho⟩ : ∃ x, putO key v L = x := ⟨_, rfl⟩
        obtain ⟨oi, hoi⟩ : ∃ x, putI key v L = x := ⟨_, rfl⟩
        obtain ⟨oc, hoc⟩ : ∃ x, putC key v = x := ⟨_, rfl⟩
        have q1 := str_neq 9 oo oo
        rw [show (oo == oo) = true by simp] at q1
        have HP := Lib.hid (fun (V : World) (B : Nat) (w0 : World) (o b : Nat) (X : List Rs) (h : Own B w0 (TreeR b o L :: X) V) => own_put key v h HLn.out)
        rw [ho, hoi, hoc] at HP
        have HS : Hid (stepL 0 key v L = putL key v L) := Lib.hid (by simp [stepL])
        clear ho hoi hoc
        go_wp2
        refine wp_only ?_
        refine wp_region_held_drew (S := (fun V => V.cell? ⟨lb, lo + j * 3 + 1, none⟩ = some (.string ⟨key.toArray⟩) ∧ V.cell? ⟨lb, lo + j * 3 + 2, none⟩ = some (.string ⟨v.toArray⟩))) (by kernel_rfl) ⟨x1, x2⟩ (fun hH0a => ?_)
        refine wpAnyH_take (i := 0) (v := ?va0) rfl (by kernel_rfl) (by kernel_rfl) (by kernel_rfl) (fun _ _ _ h => h) (Or.inl ⟨by rfl, ?hya0⟩) hH0a ?resta0
        case hya0 => (intro Wx hSw; (try dsimp only at hSw); go_simp; all_goals (with_reducible rfl))
        try simp only [List.getElem_toArray, List.getElem_cons_succ, List.getElem_cons_zero, Act.put, List.setIfInBounds_toArray, List.set_cons_zero, List.set_cons_succ]
        refine wpAnyH_take (i := 1) (v := ?va1) rfl (by kernel_rfl) (by kernel_rfl) (by kernel_rfl) (fun _ _ _ h => h) (Or.inl ⟨by rfl, ?hya1⟩) hH0a ?resta1
        case hya1 => (intro Wx hSw; (try dsimp only at hSw); go_simp; all_goals (with_reducible rfl))
        try simp only [List.getElem_toArray, List.getElem_cons_succ, List.getElem_cons_zero, Act.put, List.setIfInBounds_toArray, List.set_cons_zero, List.set_cons_succ]
        refine wpAnyH_take (i := 2) (v := ?va2) rfl (by kernel_rfl) (by kernel_rfl) (by kernel_rfl) (fun _ _ _ h => h) (Or.inl ⟨by rfl, ?hya2⟩) hH0a ?resta2
        case hya2 => (intro Wx hSw; (try dsimp only at hSw); go_simp; all_goals (with_reducible rfl))
        try simp only [List.getElem_toArray, List.getElem_cons_succ, List.getElem_cons_zero, Act.put, List.setIfInBounds_toArray, List.set_cons_zero, List.set_cons_succ]
        refine wpAnyH_take (i := 3) (v := ?va3) rfl (by kernel_rfl) (by kernel_rfl) (by kernel_rfl) (fun _ _ _ h => h) (Or.inl ⟨by rfl, ?hya3⟩) hH0a ?resta3
        case hya3 => (intro Wx hSw; (try dsimp only at hSw); go_simp; all_goals (with_reducible rfl))
        try simp only [List.getElem_toArray, List.getElem_cons_succ, List.getElem_cons_zero, Act.put, List.setIfInBounds_toArray, List.set_cons_zero, List.set_cons_succ]
        refine wpAnyH_take (i := 4) (v := ?va4) rfl (by kernel_rfl) (by kernel_rfl) (by kernel_rfl) (fun _ _ _ h => h) (Or.inl ⟨by rfl, ?hya4⟩) hH0a ?resta4
        case hya4 => (intro Wx hSw; (try dsimp only at hSw); go_simp; all_goals (with_reducible rfl))
        try simp only [List.getElem_toArray, List.getElem_cons_succ, List.getElem_cons_zero, Act.put, List.setIfInBounds_toArray, List.set_cons_zero, List.set_cons_succ]
        refine wpAnyH_take (i := 5) (v := ?va5) rfl (by kernel_rfl) (by kernel_rfl) (by kernel_rfl) (fun _ _ _ h => h) (Or.inl ⟨by rfl, ?hya5⟩) hH0a ?resta5
        case hya5 => (intro Wx hSw; (try dsimp only at hSw); go_simp; all_goals (with_reducible rfl))
        try simp only [List.getElem_toArray, List.getElem_cons_succ, List.getElem_cons_zero, Act.put, List.setIfInBounds_toArray, List.set_cons_zero, List.set_cons_succ]
        refine wpAnyH_take (i := 6) (v := ?va6) rfl (by kernel_rfl) (by kernel_rfl) (by kernel_rfl) (fun _ _ _ h => h) (Or.inl ⟨by rfl, ?hya6⟩) hH0a ?resta6
        case hya6 => (intro Wx hSw; (try dsimp only at hSw); go_simp; all_goals (with_reducible rfl))
        try simp only [List.getElem_toArray, List.getElem_cons_succ, List.getElem_cons_zero, Act.put, List.setIfInBounds_toArray, List.set_cons_zero, List.set_cons_succ]
        refine wpAnyH_take (i := 7) (v := ?va7) rfl (by kernel_rfl) (by kernel_rfl) (by kernel_rfl) (fun _ _ _ h => h) (Or.inl ⟨by rfl, ?hya7⟩) hH0a ?resta7
        case hya7 => (intro Wx hSw; (try dsimp only at hSw); go_simp; all_goals (with_reducible rfl))
        try simp only [List.getElem_toArray, List.getElem_cons_succ, List.getElem_cons_zero, Act.put, List.setIfInBounds_toArray, List.set_cons_zero, List.set_cons_succ]
        refine wpAnyH_take (i := 8) (v := ?va8) rfl (by kernel_rfl) (by kernel_rfl) (by kernel_rfl) (fun _ _ _ h => h) (Or.inl ⟨by rfl, ?hya8⟩) hH0a ?resta8
        case hya8 => (intro Wx hSw; (try dsimp only at hSw); go_simp; all_goals (with_reducible rfl))
        try simp only [List.getElem_toArray, List.getElem_cons_succ, List.getElem_cons_zero, Act.put, List.setIfInBounds_toArray, List.set_cons_zero, List.set_cons_succ]
        refine wpAnyH_take (i := 9) (v := ?va9) rfl (by kernel_rfl) (by kernel_rfl) (by kernel_rfl) (fun _ _ _ h => h) (Or.inl ⟨by rfl, ?hya9⟩) hH0a ?resta9
        case hya9 => (intro Wx hSw; (try dsimp only at hSw); go_simp; all_goals (with_reducible rfl))
        try simp only [List.getElem_toArray, List.getElem_cons_succ, List.getElem_cons_zero, Act.put, List.setIfInBounds_toArray, List.set_cons_zero, List.set_cons_succ]
        refine wpAnyH_take (i := 10) (v := ?va10) rfl (by kernel_rfl) (by kernel_rfl) (by kernel_rfl) (fun _ _ _ h => h) (Or.inl ⟨by rfl, ?hya10⟩) hH0a ?resta10
        case hya10 => (intro Wx hSw; (try dsimp only at hSw); go_simp; all_goals (with_reducible rfl))
        try simp only [List.getElem_toArray, List.getElem_cons_succ, List.getElem_cons_zero, Act.put, List.setIfInBounds_toArray, List.set_cons_zero, List.set_cons_succ]
        refine wpAnyH_ready (rs := [11]) (by kernel_rfl) (by simp) ?_
        refine AllReadyH.cons rfl (fun K hK => ?_) AllReadyH.nil
        simp only [List.getElem_toArray, List.getElem_cons_succ, List.getElem_cons_zero]
        go_simp
        (go_at_call 19; refine (HP.out _ _ _ _ _ _ (HJ.out.later (Below.refl _ _).drew)).mono ?_; rintro e V6 ⟨rfl, h6⟩; have H6 := Lib.hid h6.swap; have y1 := old_cell HZ.out.1 h6.low; have y2 := old_cell HZ.out.2 h6.low; clear h6)
        refine hK.out _ _ (⟨y1, y2⟩) (fun hH1a => ?_)
        clear hK K hH0a
        try simp only [List.getElem_toArray, List.getElem_cons_succ, List.getElem_cons_zero, Act.put, List.setIfInBounds_toArray, List.set_cons_zero, List.set_cons_succ]
        refine wpAnyH_take (i := 12) (v := ?va12) rfl (by kernel_rfl) (by kernel_rfl) (by kernel_rfl) (fun _ _ _ h => h) (Or.inl ⟨by rfl, ?hya12⟩) hH1a ?resta12
        case hya12 => (intro Wx hSw; (try dsimp only at hSw); go_simp; all_goals (with_reducible rfl))
        try simp only [List.getElem_toArray, List.getElem_cons_succ, List.getElem_cons_zero, Act.put, List.setIfInBounds_toArray, List.set_cons_zero, List.set_cons_succ]
        refine wpAnyH_take (i := 13) (v := ?va13) rfl (by kernel_rfl) (by kernel_rfl) (by kernel_rfl) (fun _ _ _ h => h) (Or.inl ⟨by rfl, ?hya13⟩) hH1a ?resta13
        case hya13 => (intro Wx hSw; (try dsimp only at hSw); go_simp; all_goals (with_reducible rfl))
        try simp only [List.getElem_toArray, List.getElem_cons_succ, List.getElem_cons_zero, Act.put, List.setIfInBounds_toArray, List.set_cons_zero, List.set_cons_succ]
        refine wpAnyH_take (i := 14) (v := ?va14) rfl (by kernel_rfl) (by kernel_rfl) (by kernel_rfl) (fun _ _ _ h => h) (Or.inl ⟨by rfl, ?hya14⟩) hH1a ?resta14
        case hya14 => (intro Wx hSw; (try dsimp only at hSw); go_simp; all_goals (with_reducible rfl))
        try simp only [List.getElem_toArray, List.getElem_cons_succ, List.getElem_cons_zero, Act.put, List.setIfInBounds_toArray, List.set_cons_zero, List.set_cons_succ]
        refine wpAnyH_take (i := 15) (v := ?va15) rfl (by kernel_rfl) (by kernel_rfl) (by kernel_rfl) (fun _ _ _ h => h) (Or.inl ⟨by rfl, ?hya15⟩) hH1a ?resta15
        case hya15 => (intro Wx hSw; (try dsimp only at hSw); go_simp; all_goals (with_reducible rfl))
        try simp only [List.getElem_toArray, List.getElem_cons_succ, List.getElem_cons_zero, Act.put, List.setIfInBounds_toArray, List.set_cons_zero, List.set_cons_succ]
        refine wpAnyH_take (i := 16) (v := ?va16) rfl (by kernel_rfl) (by kernel_rfl) (by kernel_rfl) (fun _ _ _ h => h) (Or.inl ⟨by rfl, ?hya16⟩) hH1a ?resta16
        case hya16 => (intro Wx hSw; (try dsimp only at hSw); go_simp; all_goals (with_reducible rfl))
        try simp only [List.getElem_toArray, List.getElem_cons_succ, List.getElem_cons_zero, Act.put, List.setIfInBounds_toArray, List.set_cons_zero, List.set_cons_succ]
        refine wpAnyH_take (i := 17) (v := ?va17) rfl (by kernel_rfl) (by kernel_rfl) (by kernel_rfl) (fun _ _ _ h => h) (Or.inl ⟨by rfl, ?hya17⟩) hH1a ?resta17
        case hya17 => (intro Wx hSw; (try dsimp only at hSw); go_simp; all_goals (with_reducible rfl))
        try simp only [List.getElem_toArray, List.getElem_cons_succ, List.getElem_cons_zero, Act.put, List.setIfInBounds_toArray, List.set_cons_zero, List.set_cons_succ]
        refine wpAnyH_take (i := 18) (v := ?va18) rfl (by kernel_rfl) (by kernel_rfl) (by kernel_rfl) (fun _ _ _ h => h) (Or.inl ⟨by rfl, ?hya18⟩) hH1a ?resta18
        case hya18 => (intro Wx hSw; (try dsimp only at hSw); go_simp; all_goals (with_reducible rfl))
        try simp only [List.getElem_toArray, List.getElem_cons_succ, List.getElem_cons_zero, Act.put, List.setIfInBounds_toArray, List.set_cons_zero, List.set_cons_succ]
        refine wpAnyH_done (by kernel_rfl) ?_ _
        simp only [onlyK]
        go_wp2
        refine wp_only ?_
        refine wp_region_held_drew (S := (fun V => V.cell? ⟨lb, lo + j * 3 + 1, none⟩ = some (.string ⟨key.toArray⟩) ∧ V.cell? ⟨lb, lo + j * 3 + 2, none⟩ = some (.string ⟨v.toArray⟩))) (by kernel_rfl) ⟨y1, y2⟩ (fun hH0b => ?_)
        refine wpAnyH_take (i := 0) (v := ?vb0) rfl (by kernel_rfl) (by kernel_rfl) (by kernel_rfl) (fun _ _ _ h => h) (Or.inl ⟨by rfl, ?hyb0⟩) hH0b ?restb0
        case hyb0 => (intro Wx hSw; (try dsimp only at hSw); go_simp; all_goals (with_reducible rfl))
        try simp only [List.getElem_toArray, List.getElem_cons_succ, List.getElem_cons_zero, Act.put, List.setIfInBounds_toArray, List.set_cons_zero, List.set_cons_succ]
        refine wpAnyH_take (i := 1) (v := ?vb1) rfl (by kernel_rfl) (by kernel_rfl) (by kernel_rfl) (fun _ _ _ h => h) (Or.inl ⟨by rfl, ?hyb1⟩) hH0b ?restb1
        case hyb1 => (intro Wx hSw; (try dsimp only at hSw); go_simp; all_goals (with_reducible rfl))
        try simp only [List.getElem_toArray, List.getElem_cons_succ, List.getElem_cons_zero, Act.put, List.setIfInBounds_toArray, List.set_cons_zero, List.set_cons_succ]
        refine wpAnyH_take (i := 2) (v := ?vb2) rfl (by kernel_rfl) (by kernel_rfl) (by kernel_rfl) (fun _ _ _ h => h) (Or.inl ⟨by rfl, ?hyb2⟩) hH0b ?restb2
        case hyb2 => (intro Wx hSw; (try dsimp only at hSw); go_simp; all_goals (with_reducible rfl))
        try simp only [List.getElem_toArray, List.getElem_cons_succ, List.getElem_cons_zero, Act.put, List.setIfInBounds_toArray, List.set_cons_zero, List.set_cons_succ]
        refine wpAnyH_take (i := 3) (v := ?vb3) rfl (by kernel_rfl) (by kernel_rfl) (by kernel_rfl) (fun _ _ _ h => h) (Or.inl ⟨by rfl, ?hyb3⟩) hH0b ?restb3
        case hyb3 => (intro Wx hSw; (try dsimp only at hSw); go_simp; all_goals (with_reducible rfl))
        try simp only [List.getElem_toArray, List.getElem_cons_succ, List.getElem_cons_zero, Act.put, List.setIfInBounds_toArray, List.set_cons_zero, List.set_cons_succ]
        refine wpAnyH_take (i := 4) (v := ?vb4) rfl (by kernel_rfl) (by kernel_rfl) (by kernel_rfl) (fun _ _ _ h => h) (Or.inl ⟨by rfl, ?hyb4⟩) hH0b ?restb4
        case hyb4 => (intro Wx hSw; (try dsimp only at hSw); go_simp; all_goals (with_reducible rfl))
        try simp only [List.getElem_toArray, List.getElem_cons_succ, List.getElem_cons_zero, Act.put, List.setIfInBounds_toArray, List.set_cons_zero, List.set_cons_succ]
        refine wpAnyH_take (i := 5) (v := ?vb5) rfl (by kernel_rfl) (by kernel_rfl) (by kernel_rfl) (fun _ _ _ h => h) (Or.inl ⟨by rfl, ?hyb5⟩) hH0b ?restb5
        case hyb5 => (intro Wx hSw; (try dsimp only at hSw); go_simp; all_goals (with_reducible rfl))
        try simp only [List.getElem_toArray, List.getElem_cons_succ, List.getElem_cons_zero, Act.put, List.setIfInBounds_toArray, List.set_cons_zero, List.set_cons_succ]
        refine wpAnyH_take (i := 6) (v := ?vb6) rfl (by kernel_rfl) (by kernel_rfl) (by kernel_rfl) (fun _ _ _ h => h) (Or.inl ⟨by rfl, ?hyb6⟩) hH0b ?restb6
        case hyb6 => (intro Wx hSw; (try dsimp only at hSw); go_simp; all_goals (with_reducible rfl))
        try simp only [List.getElem_toArray, List.getElem_cons_succ, List.getElem_cons_zero, Act.put, List.setIfInBounds_toArray, List.set_cons_zero, List.set_cons_succ]
        refine wpAnyH_take (i := 7) (v := ?vb7) rfl (by kernel_rfl) (by kernel_rfl) (by kernel_rfl) (fun _ _ _ h => h) (Or.inl ⟨by rfl, ?hyb7⟩) hH0b ?restb7
        case hyb7 => (intro Wx hSw; (try dsimp only at hSw); go_simp; all_goals (with_reducible rfl))
        try simp only [List.getElem_toArray, List.getElem_cons_succ, List.getElem_cons_zero, Act.put, List.setIfInBounds_toArray, List.set_cons_zero, List.set_cons_succ]
        refine wpAnyH_take (i := 8) (v := ?vb8) rfl (by kernel_rfl) (by kernel_rfl) (by kernel_rfl) (fun _ _ _ h => h) (Or.inl ⟨by rfl, ?hyb8⟩) hH0b ?restb8
        case hyb8 => (intro Wx hSw; (try dsimp only at hSw); go_simp; all_goals (with_reducible rfl))
        try simp only [List.getElem_toArray, List.getElem_cons_succ, List.getElem_cons_zero, Act.put, List.setIfInBounds_toArray, List.set_cons_zero, List.set_cons_succ]
        refine wpAnyH_take (i := 9) (v := ?vb9) rfl (by kernel_rfl) (by kernel_rfl) (by kernel_rfl) (fun _ _ _ h => h) (Or.inl ⟨by rfl, ?hyb9⟩) hH0b ?restb9
        case hyb9 => (intro Wx hSw; (try dsimp only at hSw); go_simp; all_goals (with_reducible rfl))
        try simp only [List.getElem_toArray, List.getElem_cons_succ, List.getElem_cons_zero, Act.put, List.setIfInBounds_toArray, List.set_cons_zero, List.set_cons_succ]
        refine wpAnyH_take (i := 10) (v := ?vb10) rfl (by kernel_rfl) (by kernel_rfl) (by kernel_rfl) (fun _ _ _ h => h) (Or.inl ⟨by rfl, ?hyb10⟩) hH0b ?restb10
        case hyb10 => (intro Wx hSw; (try dsimp only at hSw); go_simp; all_goals (with_reducible rfl))
        try simp only [List.getElem_toArray, List.getElem_cons_succ, List.getElem_cons_zero, Act.put, List.setIfInBounds_toArray, List.set_cons_zero, List.set_cons_succ]
        refine wpAnyH_ready (rs := [11]) (by kernel_rfl) (by simp) ?_
        refine AllReadyH.cons rfl (fun K hK => ?_) AllReadyH.nil
        simp only [List.getElem_toArray, List.getElem_cons_succ, List.getElem_cons_zero]
        go_simp
        (go_at_call 19; refine (HP.out _ _ _ _ _ _ (H6.out.later (Below.refl _ _).drew)).mono ?_; rintro e V7 ⟨rfl, h7⟩; have H7 := Lib.hid h7.swap; have z1 := old_cell HZ.out.1 h7.low; have z2 := old_cell HZ.out.2 h7.low; clear h7)
        refine hK.out _ _ (⟨z1, z2⟩) (fun hH1b => ?_)
        clear hK K hH0b
        try simp only [List.getElem_toArray, List.getElem_cons_succ, List.getElem_cons_zero, Act.put, List.setIfInBounds_toArray, List.set_cons_zero, List.set_cons_succ]
        refine wpAnyH_take (i := 12) (v := ?vb12) rfl (by kernel_rfl) (by kernel_rfl) (by kernel_rfl) (fun _ _ _ h => h) (Or.inl ⟨by rfl, ?hyb12⟩) hH1b ?restb12
        case hyb12 => (intro Wx hSw; (try dsimp only at hSw); go_simp; all_goals (with_reducible rfl))
        try simp only [List.getElem_toArray, List.getElem_cons_succ, List.getElem_cons_zero, Act.put, List.setIfInBounds_toArray, List.set_cons_zero, List.set_cons_succ]
        refine wpAnyH_take (i := 13) (v := ?vb13) rfl (by kernel_rfl) (by kernel_rfl) (by kernel_rfl) (fun _ _ _ h => h) (Or.inl ⟨by rfl, ?hyb13⟩) hH1b ?restb13
        case hyb13 => (intro Wx hSw; (try dsimp only at hSw); go_simp; all_goals (with_reducible rfl))
        try simp only [List.getElem_toArray, List.getElem_cons_succ, List.getElem_cons_zero, Act.put, List.setIfInBounds_toArray, List.set_cons_zero, List.set_cons_succ]
        refine wpAnyH_take (i := 14) (v := ?vb14) rfl (by kernel_rfl) (by kernel_rfl) (by kernel_rfl) (fun _ _ _ h => h) (Or.inl ⟨by rfl, ?hyb14⟩) hH1b ?restb14
        case hyb14 => (intro Wx hSw; (try dsimp only at hSw); go_simp; all_goals (with_reducible rfl))
        try simp only [List.getElem_toArray, List.getElem_cons_succ, List.getElem_cons_zero, Act.put, List.setIfInBounds_toArray, List.set_cons_zero, List.set_cons_succ]
        refine wpAnyH_take (i := 15) (v := ?vb15) rfl (by kernel_rfl) (by kernel_rfl) (by kernel_rfl) (fun _ _ _ h => h) (Or.inl ⟨by rfl, ?hyb15⟩) hH1b ?restb15
        case hyb15 => (intro Wx hSw; (try dsimp only at hSw); go_simp; all_goals (with_reducible rfl))
        try simp only [List.getElem_toArray, List.getElem_cons_succ, List.getElem_cons_zero, Act.put, List.setIfInBounds_toArray, List.set_cons_zero, List.set_cons_succ]
        refine wpAnyH_take (i := 16) (v := ?vb16) rfl (by kernel_rfl) (by kernel_rfl) (by kernel_rfl) (fun _ _ _ h => h) (Or.inl ⟨by rfl, ?hyb16⟩) hH1b ?restb16
        case hyb16 => (intro Wx hSw; (try dsimp only at hSw); go_simp; all_goals (with_reducible rfl))
        try simp only [List.getElem_toArray, List.getElem_cons_succ, List.getElem_cons_zero, Act.put, List.setIfInBounds_toArray, List.set_cons_zero, List.set_cons_succ]
        refine wpAnyH_take (i := 17) (v := ?vb17) rfl (by kernel_rfl) (by kernel_rfl) (by kernel_rfl) (fun _ _ _ h => h) (Or.inl ⟨by rfl, ?hyb17⟩) hH1b ?restb17
        case hyb17 => (intro Wx hSw; (try dsimp only at hSw); go_simp; all_goals (with_reducible rfl))
        try simp only [List.getElem_toArray, List.getElem_cons_succ, List.getElem_cons_zero, Act.put, List.setIfInBounds_toArray, List.set_cons_zero, List.set_cons_succ]
        refine wpAnyH_take (i := 18) (v := ?vb18) rfl (by kernel_rfl) (by kernel_rfl) (by kernel_rfl) (fun _ _ _ h => h) (Or.inl ⟨by rfl, ?hyb18⟩) hH1b ?restb18
        case hyb18 => (intro Wx hSw; (try dsimp only at hSw); go_simp; all_goals (with_reducible rfl))
        try simp only [List.getElem_toArray, List.getElem_cons_succ, List.getElem_cons_zero, Act.put, List.setIfInBounds_toArray, List.set_cons_zero, List.set_cons_succ]
        refine wpAnyH_done (by kernel_rfl) ?_ _
        simp only [onlyK]
        go_wp2
        go_roundw
        case rel => exact ⟨j + 1, by omega, by go_num, Lib.hid (by rw [HE.out, HS.out]; exact H7.out)⟩
        case measure => simp [intOf]; omega
      by_cases h1 : ask = 1
      · subst h1
        obtain ⟨oo, ho⟩ : ∃ x, getO key L = x := ⟨_, rfl⟩
        obtain ⟨oc, hoc⟩ : ∃ x, getC key L = x := ⟨_, rfl⟩
        have q1 := str_neq 9 oo oo
        rw [show (oo == oo) = true by simp] at q1
        have HP := Lib.hid (fun (V : World) (B : Nat) (w0 : World) (o b : Nat) (X : List Rs) (h : Own B w0 (TreeR b o L :: X) V) => own_del key h HLn.out)
        rw [ho, hoc] at HP
        have HS : Hid (stepL 1 key v L = delL key L) := Lib.hid (by simp [stepL])
        clear ho hoc
        have tok2 : True := trivial
        go_wp2_with (first
          | (go_at_call 34; have _t := tok2; refine (HP.out _ _ _ _ _ _ HJ.out).mono ?_; rintro e V6 ⟨rfl, h6⟩; have H6 := Lib.hid h6.swap; have y1 := old_cell HZ.out.1 h6.low; clear h6 tok2 _t)
          | (go_at_call 34; refine (HP.out _ _ _ _ _ _ H6.out).mono ?_; rintro e V7 ⟨rfl, h7⟩; have H7 := Lib.hid h7.swap; clear h7))
        go_roundw
        case rel => exact ⟨j + 1, by omega, by go_num, Lib.hid (by rw [HE.out, HS.out]; exact H7.out)⟩
        case measure => simp [intOf]; omega
      have HS : Hid (stepL ask key v L = L) := Lib.hid (by simp [stepL, h0, h1])
      go_wp2
      go_roundw
      case rel => exact ⟨j + 1, by omega, by go_num, Lib.hid (by rw [HE.out, HS.out]; exact HJ.out)⟩
      case measure => simp [intOf]; omega
    · obtain rfl : j = l.length := by omega
      have HLn : Hid ((runL l).length ≤ 200) := Lib.hid (by have := run_len l; omega)
      rw [List.take_length] at HJ
      obtain ⟨L, hL⟩ : ∃ L, runL l = L := ⟨_, rfl⟩
      rw [hL] at HJ HLn
      obtain ⟨r, hr⟩ : ∃ r, wr.heap.size = r := ⟨_, rfl⟩
      obtain ⟨W2, hW2⟩ : ∃ W2, (wr.alloc (.cells #[.slice none 0 0] 33)).alloc (.cells #[.pointer (some ⟨r, 0, none⟩)] 30) = W2 := ⟨_, rfl⟩
      have hb2 : Below wr.heap.size wr W2 := by rw [← hW2]; exact (al1 wr _).trans ((al1 (wr.alloc (.cells #[.slice none 0 0] 33)) _).mono (by simp))
      have HC : Hid (W2.cell? ⟨r, 0, none⟩ = some (.slice none 0 0) ∧ W2.frozen? ⟨r, 0, none⟩ = false ∧ W2.cell? ⟨r + 1, 0, none⟩ = some (.pointer (some ⟨r, 0, none⟩)) ∧ W2.heap.size = r + 2) := Lib.hid (by rw [← hW2, ← hr]; simp)
      have HAll := Lib.hid (own_all_new (HJ.out.later hb2) (by have := HLn.out; omega))
      have HB2 := Lib.hid hb2
      have q0 := fun x y w => eql_func_nil Try.underlying35 (.func 46) x y w
      have k1 : ¬ (l.length : Int) < (l.length : Int) := by omega
      clear hb2 hL
      go_wp2_with (go_at_call 20; refine HAll.out.mono ?_; rintro e V ⟨Bx, a2, c2, rfl, g1, g2, g3, g4, g5⟩; have HV := Lib.hid (And.intro g1 (And.intro g2 (And.intro g3 (And.intro g4 g5)))); clear g1 g2 g3 g4 g5)
      clear hW2
      have HCV : Hid (V.cell? ⟨r, 0, none⟩ = some (.slice none 0 0) ∧ V.frozen? ⟨r, 0, none⟩ = false ∧ V.cell? ⟨r + 1, 0, none⟩ = some (.pointer (some ⟨r, 0, none⟩)) ∧ r + 2 ≤ V.heap.size) := Lib.hid (by
        obtain ⟨h1, h2, h3, h4⟩ := HC.out
        obtain ⟨_, _, k3, _⟩ := HV.out
        have := k3.size
        exact ⟨old_cell h1 k3, (k3.frozen (p := ⟨r, 0, none⟩) (block_of_cell h1)).trans h2, old_cell h3 k3, by omega⟩)
      have HRR : Hid (∀ k, (k = Bx ∨ (L ≠ [] ∧ ∃ x, a2 = some x ∧ k = x.block)) → k < V.heap.size ∧ k ≠ r) := Lib.hid (fun k hk => by
        obtain ⟨k1, k2, k3, k4, k5⟩ := HV.out
        obtain ⟨_, _, _, h4⟩ := HC.out
        have h1 := block_of_cell k1
        simp at h1
        rcases hk with rfl | ⟨hne, x, e, rfl⟩
        · omega
        · have h6 := k5 x e hne
          have h7 := k2.lt x e (pairsV_ne hne)
          omega)
      have HK : Hid (∀ W3, Fr (fun k _ => k = r) V W3 → W3.cell? ⟨r + 1, 0, none⟩ = some (.pointer (some ⟨r, 0, none⟩))) := Lib.hid (fun W3 hf => cell_fr hf HCV.out.2.2.1 (by omega))
      refine (wpIn_wide (n := 3)).1 ?_
      refine' wpIn_range_tells (by omega) (gf := 46) (lb := #[.pointer (some ⟨Bx, 0, none⟩)]) rfl (enters_any Try.func46 (by kernel_rfl) rfl) (encs := prE) (stops := False) (xs := L)
        (R := fun k => k = Bx ∨ (L ≠ [] ∧ ∃ x, a2 = some x ∧ k = x.block)) (K0 := fun _ => False) (fun o1 o2 => ?seq) (fun x => rfl) (fun k hk => (HRR.out k hk).1) (fun k hk => hk.elim)
        (Coll 2 pairsV V r) (fun _ _ _ _ => False) (Coll.clos (by have := HCV.out.2.2.2; omega))
        (fun _ _ _ _ _ _ h _ _ => h) (.inr (fun _ _ _ _ h => h)) (Coll.start (by have := HCV.out.2.2.2; omega) rfl HCV.out.1 HCV.out.2.1)
        _ ?assign ?body ?done ?stop
      case seq =>
        obtain ⟨k1, k2, k3, k4, k5⟩ := HV.out
        have hbo : Below V.heap.size V ((V.alloc o1).alloc o2) := (al1 V o1).trans ((al1 (V.alloc o1) o2).mono (by simp))
        refine all1_tells Bx a2 c2 L _ _ (by have := HLn.out; omega) (old_cell k1 hbo) (k2.later hbo) (.inl rfl) (fun hne x hx => .inr ⟨hne, x, hx, rfl⟩) (fun k hk => ?_)
        have h1 := (HRR.out k hk).1
        have h2 := hbo.size
        omega
      case assign =>
        intro l' x W2 K1 hK1
        simp only [prE]
        gi_wp2
        exact hK1
      case body =>
        rintro l' K pre x post W3 hx _ ⟨F, a3, c3, h1, h2, h3, h4, h5, h6, h7⟩
        obtain ⟨i0, hi, hz0, hz1, hz2⟩ := info_parts Try.infoPairD
        have hn : pre.length + 1 ≤ 200 := by
          have h8 := HLn.out
          rw [hx] at h8
          simp at h8
          omega
        have m0 := HK.out W3 h6
        have hb3 : Below W3.heap.size W3 ((W3.drew.alloc (.cells #[.string ⟨x.1.toArray⟩, .string ⟨x.2.toArray⟩] 38))) := (Below.refl _ W3).drew.trans (al1 W3.drew _)
        obtain ⟨a4, c4, W4, F4, hrun, g2, g3, g4, g5⟩ := run_app_sl (P := Try.prog) (w := W3.drew.alloc (.cells #[.string ⟨x.1.toArray⟩, .string ⟨x.2.toArray⟩] 38)) 31 31 38 i0 _ 2 32 Try.underlying31 hi hz0 hz1 hz2 rfl (by decide) a3 pre.length c3 (pairsV pre) ((h1.fr (Fr.refl noCells W3).drew (fun _ _ _ h => h)).laid _) (((h2.later (Fr.refl noCells W3).drew)).laid _) (some ⟨W3.heap.size, 0, none⟩) 1 1 [.string ⟨x.1.toArray⟩, .string ⟨x.2.toArray⟩] (Rd.twoNew W3.drew _ _ _ rfl rfl) (by unfold maxLen; omega) (by omega)
        obtain ⟨v0, v1⟩ := Coll.after (by have := HCV.out.2.2.2; omega) h3 h4 h5 hb3 g3
        have v2 : W4.cell? ⟨r + 1, 0, none⟩ = some (.pointer (some ⟨r, 0, none⟩)) := by
          refine cell_fr g3 (old_cell m0 hb3) (fun hF => ?_)
          have := (h3 _ _ hF).1
          have := HCV.out.2.2.2
          omega
        have HRUN := Lib.hid hrun
        have HST := Lib.hid (Coll.step (V := pairsV) (pre := pre) (x := x) (by have := HCV.out.2.2.2; omega) h2 h3 h6 h7 hb3 (by simpa [pairsV] using g2) g3 g4 g5 (by rw [h4]; rfl) h5 (fun k => k = Bx ∨ (L ≠ [] ∧ ∃ x, a2 = some x ∧ k = x.block)) HRR.out)
        obtain ⟨n, hnn⟩ : ∃ n, pre.length = n := ⟨_, rfl⟩
        have e1 : (pre ++ [x]).length = n + 1 := by simp [hnn]
        rw [e1] at HST
        rw [hnn] at h4 v0 hn HRUN
        have z1 : ¬ (1000 : Int) < ((n : Int) + 1) := by omega
        have z2 : ¬ (1000 : Int) < ((n + 1 : Nat) : Int) := by omega
        clear h1 h2 h3 h5 h6 h7 hx hnn hrun g2 g3 g4 g5 e1
        gi_wp2
        refine wpIn_region_till 12 (fun V => V.cell? ⟨r + 1, 0, none⟩ = some (.pointer (some ⟨r, 0, none⟩)) ∧ V.cell? ⟨r, 0, none⟩ = some (.slice a3 n c3)) (by kernel_rfl) (fun ⟨_, _, h⟩ => h) (by kernel_rfl) ⟨m0, h4⟩ (fun hH => ?_)
        refine wpTill_take (i := 0) (v := ?v0) rfl (by kernel_rfl) (by kernel_rfl) (by kernel_rfl) (by kernel_rfl) (fun _ _ _ h => h) rfl ?hy0 hH ?rest0
        case hy0 => (intro Wx hSw; (try dsimp only at hSw); go_simp; all_goals (with_reducible rfl))
        try simp only [List.getElem_toArray, List.getElem_cons_succ, List.getElem_cons_zero, Act.put, List.setIfInBounds_toArray, List.set_cons_zero, List.set_cons_succ]
        refine wpTill_take (i := 1) (v := ?v1) rfl (by kernel_rfl) (by kernel_rfl) (by kernel_rfl) (by kernel_rfl) (fun _ _ _ h => h) rfl ?hy1 hH ?rest1
        case hy1 => (intro Wx hSw; (try dsimp only at hSw); go_simp; all_goals (with_reducible rfl))
        try simp only [List.getElem_toArray, List.getElem_cons_succ, List.getElem_cons_zero, Act.put, List.setIfInBounds_toArray, List.set_cons_zero, List.set_cons_succ]
        refine wpTill_take (i := 2) (v := ?v2) rfl (by kernel_rfl) (by kernel_rfl) (by kernel_rfl) (by kernel_rfl) (fun _ _ _ h => h) rfl ?hy2 hH ?rest2
        case hy2 => (intro Wx hSw; (try dsimp only at hSw); go_simp; all_goals (with_reducible rfl))
        try simp only [List.getElem_toArray, List.getElem_cons_succ, List.getElem_cons_zero, Act.put, List.setIfInBounds_toArray, List.set_cons_zero, List.set_cons_succ]
        refine wpTill_take (i := 3) (v := ?v3) rfl (by kernel_rfl) (by kernel_rfl) (by kernel_rfl) (by kernel_rfl) (fun _ _ _ h => h) rfl ?hy3 hH ?rest3
        case hy3 => (intro Wx hSw; (try dsimp only at hSw); go_simp; all_goals (with_reducible rfl))
        try simp only [List.getElem_toArray, List.getElem_cons_succ, List.getElem_cons_zero, Act.put, List.setIfInBounds_toArray, List.set_cons_zero, List.set_cons_succ]
        refine wpTill_take (i := 4) (v := ?v4) rfl (by kernel_rfl) (by kernel_rfl) (by kernel_rfl) (by kernel_rfl) (fun _ _ _ h => h) rfl ?hy4 hH ?rest4
        case hy4 => (intro Wx hSw; (try dsimp only at hSw); go_simp; all_goals (with_reducible rfl))
        try simp only [List.getElem_toArray, List.getElem_cons_succ, List.getElem_cons_zero, Act.put, List.setIfInBounds_toArray, List.set_cons_zero, List.set_cons_succ]
        refine wpTill_take (i := 5) (v := ?v5) rfl (by kernel_rfl) (by kernel_rfl) (by kernel_rfl) (by kernel_rfl) (fun _ _ _ h => h) rfl ?hy5 hH ?rest5
        case hy5 => (intro Wx hSw; (try dsimp only at hSw); go_simp; all_goals (with_reducible rfl))
        try simp only [List.getElem_toArray, List.getElem_cons_succ, List.getElem_cons_zero, Act.put, List.setIfInBounds_toArray, List.set_cons_zero, List.set_cons_succ]
        refine wpTill_take (i := 6) (v := ?v6) rfl (by kernel_rfl) (by kernel_rfl) (by kernel_rfl) (by kernel_rfl) (fun _ _ _ h => h) rfl ?hy6 hH ?rest6
        case hy6 => (intro Wx hSw; (try dsimp only at hSw); go_simp; all_goals (with_reducible rfl))
        try simp only [List.getElem_toArray, List.getElem_cons_succ, List.getElem_cons_zero, Act.put, List.setIfInBounds_toArray, List.set_cons_zero, List.set_cons_succ]
        refine wpTill_take (i := 7) (v := ?v7) rfl (by kernel_rfl) (by kernel_rfl) (by kernel_rfl) (by kernel_rfl) (fun _ _ _ h => h) rfl ?hy7 hH ?rest7
        case hy7 => (intro Wx hSw; (try dsimp only at hSw); go_simp; all_goals (with_reducible rfl))
        try simp only [List.getElem_toArray, List.getElem_cons_succ, List.getElem_cons_zero, Act.put, List.setIfInBounds_toArray, List.set_cons_zero, List.set_cons_succ]
        refine wpTill_one (i := 8) (by kernel_rfl) rfl rfl (fun K hK => ?_)
        go_simp
        have hH2 := And.intro (old_cell hH.1 (al1 W3.drew (.cells #[.string ⟨x.1.toArray⟩, .string ⟨x.2.toArray⟩] 38))) (old_cell hH.2 (al1 W3.drew (.cells #[.string ⟨x.1.toArray⟩, .string ⟨x.2.toArray⟩] 38)))
        refine hK.out _ _ (fun _ => hH2) ?_
        clear hK K hH; have hH := hH2; clear hH2
        try simp only [List.getElem_toArray, List.getElem_cons_succ, List.getElem_cons_zero, Act.put, List.setIfInBounds_toArray, List.set_cons_zero, List.set_cons_succ]
        refine wpTill_one (i := 9) (by kernel_rfl) rfl rfl (fun K hK => ?_)
        refine wp_appR _ _ 31 31 (by rfl) _ _ (by rfl) (by rfl) HRUN.out ?_
        have hH2 := And.intro v2 v0
        refine hK.out _ _ (fun _ => hH2) ?_
        clear hK K hH; have hH := hH2; clear hH2
        try simp only [List.getElem_toArray, List.getElem_cons_succ, List.getElem_cons_zero, Act.put, List.setIfInBounds_toArray, List.set_cons_zero, List.set_cons_succ]
        refine wpTill_one (i := 10) (by kernel_rfl) rfl rfl (fun K hK => ?_)
        go_simp
        refine hK.out _ _ (fun _ => hH) ?_
        clear hK K
        try simp only [List.getElem_toArray, List.getElem_cons_succ, List.getElem_cons_zero, Act.put, List.setIfInBounds_toArray, List.set_cons_zero, List.set_cons_succ]
        refine wpTill_one (i := 11) (by kernel_rfl) rfl rfl (fun K hK => ?_)
        go_simp
        refine hK.out _ _ (fun _ => hH) ?_
        clear hK K
        try simp only [List.getElem_toArray, List.getElem_cons_succ, List.getElem_cons_zero, Act.put, List.setIfInBounds_toArray, List.set_cons_zero, List.set_cons_succ]
        refine wpTill_one (i := 12) (by kernel_rfl) rfl rfl (fun K hK => ?_)
        go_simp
        refine hK.out _ _ (fun h => absurd rfl h) ?_
        clear hK K
        try simp only [List.getElem_toArray, List.getElem_cons_succ, List.getElem_cons_zero, Act.put, List.setIfInBounds_toArray, List.set_cons_zero, List.set_cons_succ]
        refine wpTill_done (by kernel_rfl) ?_ _
        gi_wp2
        exact HST.out
      case stop =>
        intro D c K pre x post W2 _ h
        exact h.elim
      case done =>
        rintro D K W3 ⟨F, a3, c3, h1, h2, h3, h4, h5, h6, h7⟩ _ hKD hsD hDef
        obtain ⟨_, _, k3, _⟩ := HV.out
        have hbV : Below wr.heap.size wr V := HB2.out.trans (k3.mono HB2.out.size)
        have hb3 : Below wr.heap.size wr W3 := hbV.trans (h6.below (B := wr.heap.size) hbV.size (fun k x e => by omega))
        have m0 := HK.out W3 h6
        have HO : Hid (Own W.heap.size W (LstR r L :: [TreeR b o1 L, TreeR d o2 L]) W3) := Lib.hid (HJ.out.add hb3 (R := LstR r L) (F := lstF r F) ⟨F, a3, c3, ⟨h4, h5, h1, fun x hx => by have := (h3 _ _ hx).1; have := HCV.out.2.2.2; omega, h2⟩, rfl⟩ (fun k x hx => by
          rcases hx with rfl | hx
          · omega
          · have := (h3 _ _ hx).1; have := hbV.size; omega))
        have HSm := Lib.hid (own_same (HO.out.perm (perm3 (A := LstR r L) (C := TreeR b o1 L) (D := TreeR d o2 L))) (by have := HLn.out; omega))
        have H3 := Lib.hid (And.intro hsD hDef)
        clear h1 h2 h3 h4 h5 h6 h7 hKD hsD hDef hbV hb3 k3
        go_wp2_with (first
          | (go_at_call 21; refine HSm.out.mono ?_; rintro e V8 ⟨rfl, hb⟩; have H8 := Lib.hid hb; clear hb)
          | (go_at_call 18; refine (HA.out _).mono ?_; rintro e V9 ⟨rfl, hb⟩; have H9 := Lib.hid (H8.out.trans (hb.mono H8.out.size)); obtain ⟨_, _, y0, y1⟩ := HX.out _ (HO.out.later H9.out).low; clear hb))
        obtain ⟨hsD, hDef⟩ := H3.out
        have hDs : D < W3.heap.size := (Array.getElem?_eq_some_iff.1 hDef).1
        have hne : D ≠ w.heap.size + 1 := by have := HO.out.1; have := HSz.out; have := HJ.out.size; have := HCV.out.2.2.2; omega
        refine leave_marks [D] _ (by simp) (fun E hE => ?_) (fun W' hf => ?_)
        · simp at hE; subst hE
          exact (Below.heap_setCell V9 ⟨w.heap.size + 1, 0, none⟩ (.bool true) E hne).trans ((H9.out.block E hDs).trans hDef)
        · have hlow := (HO.out.later H9.out).low
          have hc : W'.cell? ⟨w.heap.size + 1, 0, none⟩ = some (.bool true) := cell_fr hf (show (V9.setCell ⟨w.heap.size + 1, 0, none⟩ (.bool true)).cell? ⟨w.heap.size + 1, 0, none⟩ = some (.bool true) from World.cell?_setCell_same' _ _ _ (by rw [y0]; rfl)) (by simp; omega)
          refine ⟨_, results_bool rfl _ W' (w.heap.size + 1) (.bool true) rfl hc, rfl, ?_⟩
          have b4 := HEnd.out _ hlow
          exact b4.trans (hf.below (B := w.heap.size) b4.size (fun k x e => by simp at e; subst e; have := HSz.out; have := HJ.out.size; have := HCV.out.2.2.2; omega))
end Go.Proofs.Ytbempjkkohjnbaa
