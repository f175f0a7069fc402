/- Joined: Tblaw13. -/
import Derived.Test.YtecnijnmgdfdhaaYTblaw5
/- The laws of package table: what a nil table answers; TableNil. -/
namespace Go.Proofs.Ytecnijnmgdfdhaa
namespace Tb
open Go.RowKit Tr
open Ky (less)
attribute [local go_sem] Oper.semAt_some
theorem cell_new (w : World) (vs : Array Value) (t : TypeId) (i : Nat) (v : Value) (h : vs.toList[i]? = some v) : (w.alloc (.cells vs t)).cell? ⟨w.heap.size, i, none⟩ = some v := by simp; simpa using h
theorem froz_new (w : World) (vs : Array Value) (t : TypeId) : (w.alloc (.cells vs t)).frozen? ⟨w.heap.size, 0, none⟩ = false := by simp
theorem checkTbl_nil (w : World) : Calls Try.prog 22 #[.pointer none] w fun e V => e = .returned (.bool false) ∧ Below w.heap.size w V := by
  have hb0 : Below w.heap.size w ((w.alloc (.cells #[.pointer none] 27)).alloc (.cells #[.bool false] 4)) := (al1 w _).trans ((al1 (w.alloc (.cells #[.pointer none] 27)) _).mono (by simp))
  obtain ⟨W, hW⟩ : ∃ W, (w.alloc (.cells #[.pointer none] 27)).alloc (.cells #[.bool false] 4) = W := ⟨_, rfl⟩
  have x0 : W.cell? ⟨w.heap.size, 0, none⟩ = some (.pointer none) := by rw [← hW]; simp
  have x2 : W.cell? ⟨w.heap.size + 1, 0, none⟩ = some (.bool false) := by rw [← hW]; simp
  have x3 : W.frozen? ⟨w.heap.size + 1, 0, none⟩ = false := by rw [← hW]; simp
  rw [hW] at hb0
  have HB := Lib.hid hb0
  clear hb0
  refine calls_marks Try.func22 rfl ?_
  simp only [Try.ntmps22, List.size_toArray, List.length_cons, List.length_nil, Nat.reduceAdd, Nat.reduceSub, Array.replicate_succ, Array.replicate_zero, List.push_toArray, List.append_toArray, List.nil_append, List.cons_append]
  refine wpIn_wide.2 ?_
  go_wp2
  exact leave_none ⟨_, results_bool rfl _ _ (w.heap.size + 1) (.bool false) rfl (World.cell?_setCell_same' _ _ _ (by rw [x2]; rfl)), rfl, HB.out.setCell (p := ⟨w.heap.size + 1, 0, none⟩) (Nat.le_succ _) _⟩
theorem copyTb_nil (w : World) : Calls Try.prog 30 #[.pointer none] w fun e V => e = .returned (.pointer none) ∧ w = V := by
  go_enter Try.func30, Try.ntmps30
  go_wp2
  go_ret
  exact ⟨rfl, rfl⟩
set_option maxHeartbeats 1000000 in
theorem getTb_nil (k : Str) (w : World) : Calls Try.prog 16 #[.pointer none, .string ⟨k.toArray⟩] w fun e V => e = .returned (.tuple #[rowW zr, .int .i64 2]) ∧ Below w.heap.size w V := by
  have hZ := own_newRow (Own.nil w) zr 37
  have hb1 := al1 w (.cells #[.int .i64 zr.1, .int .i64 zr.2.1, .int .i64 zr.2.2.1, .int .i64 zr.2.2.2] 37)
  obtain ⟨W1, hW1⟩ : ∃ W1, w.alloc (.cells #[.int .i64 0, .int .i64 0, .int .i64 0, .int .i64 0] 37) = W1 := ⟨_, rfl⟩
  have hZ : Own w.heap.size w [CellsR w.heap.size (r4V zr)] W1 := by rw [← hW1]; exact hZ
  have hb1 : Below w.heap.size w W1 := by rw [← hW1]; exact hb1
  have HC := Lib.hid (fun W => checkTb_nil k W)
  have HB1 := Lib.hid hb1
  have hv := own_zero hZ
  have f0 := (hv 0 (by omega)).1
  have g0 := (hv 0 (by omega)).2
  have f1 := (hv 1 (by omega)).1
  have g1 := (hv 1 (by omega)).2
  have f2 := (hv 2 (by omega)).1
  have g2 := (hv 2 (by omega)).2
  have f3 := (hv 3 (by omega)).1
  have g3 := (hv 3 (by omega)).2
  clear hZ hb1
  go_enter Try.func16, Try.ntmps16
  go_wp2_with (go_at_call 38; refine (HC.out _).mono ?_; rintro e V ⟨rfl, rfl⟩)
  have t4 := Rw.four_set W1 w.heap.size [] (.int .i64 0) (.int .i64 0) (.int .i64 0) (.int .i64 0) hv
  refine bodyPost_ret (v := .tuple #[rowW zr, .int .i64 2]) (by simp [results, Try.results16, go_sem, t4.1, t4.2.1, t4.2.2.1, t4.2.2.2, rowW, zr]) rfl ?_
  exact ⟨rfl, HB1.out.trans (((four_fr w.heap.size _ _ _ _ W1).below HB1.out.size (fun b o e => by rw [e]; exact Nat.le_refl _)))⟩
set_option maxHeartbeats 1000000 in
theorem delTb_nil (k : Str) (w : World) : Calls Try.prog 26 #[.pointer none, .string ⟨k.toArray⟩] w fun e V => e = .returned (.tuple #[rowW zr, .int .i64 2]) ∧ Below w.heap.size w V := by
  have hZ := own_newRow (Own.nil w) zr 37
  obtain ⟨W1, hW1⟩ : ∃ W1, w.alloc (.cells #[.int .i64 0, .int .i64 0, .int .i64 0, .int .i64 0] 37) = W1 := ⟨_, rfl⟩
  have hZ : Own w.heap.size w [CellsR w.heap.size (r4V zr)] W1 := by rw [← hW1]; exact hZ
  have HZ := Lib.hid hZ
  have HG : Hid (Calls Try.prog 16 #[.pointer none, .string ⟨k.toArray⟩] W1 fun e V => e = .returned (.tuple #[.agg #[.int .i64 0, .int .i64 0, .int .i64 0, .int .i64 0], .int .i64 2]) ∧ Below W1.heap.size W1 V) := Lib.hid (getTb_nil k W1)
  clear hZ
  go_enter Try.func26, Try.ntmps26
  go_wp2_with (go_at_call 16; refine HG.out.mono ?_; rintro e V ⟨rfl, hb⟩; have H1 : Hid (Own w.heap.size w [CellsR V.heap.size (r4V zr), CellsR w.heap.size (r4V zr)] (V.alloc (.cells #[.int .i64 0, .int .i64 0, .int .i64 0, .int .i64 0] 37))) := Lib.hid (own_newRow (HZ.out.later hb) zr 37); have hv := own_zeroM (r := w.heap.size) H1.out (by simp); have f0 := (hv 0 (by omega)).1; have g0 := (hv 0 (by omega)).2; have f1 := (hv 1 (by omega)).1; have g1 := (hv 1 (by omega)).2; have f2 := (hv 2 (by omega)).1; have g2 := (hv 2 (by omega)).2; have f3 := (hv 3 (by omega)).1; have g3 := (hv 3 (by omega)).2; clear hb)
  have t4 := Rw.four_set _ w.heap.size [] (.int .i64 0) (.int .i64 0) (.int .i64 0) (.int .i64 0) hv
  refine bodyPost_ret (v := .tuple #[rowW zr, .int .i64 2]) (by simp [results, Try.results26, go_sem, t4.1, t4.2.1, t4.2.2.1, t4.2.2.2, rowW, zr]) rfl ?_
  exact ⟨rfl, (own_scratch H1.out.swap (four_fr w.heap.size _ _ _ _ _)).low⟩
set_option maxHeartbeats 1000000 in
theorem putTb_nil (k : Str) (r0 r1 r2 r3 : Int) (w : World) : Calls Try.prog 24 #[.pointer none, .string ⟨k.toArray⟩, .agg #[.int .i64 r0, .int .i64 r1, .int .i64 r2, .int .i64 r3]] w fun e V => e = .returned (.tuple #[rowW zr, .bool false, .int .i64 2]) ∧ Below w.heap.size w V := by
  have hZ := own_newRow (own_newRow (Own.nil w) (r0, r1, r2, r3) 37) zr 37
  rw [World.size_alloc] at hZ
  obtain ⟨W1, hW1⟩ : ∃ W1, (w.alloc (.cells #[.int .i64 r0, .int .i64 r1, .int .i64 r2, .int .i64 r3] 37)).alloc (.cells #[.int .i64 0, .int .i64 0, .int .i64 0, .int .i64 0] 37) = W1 := ⟨_, rfl⟩
  have hZ : Own w.heap.size w [CellsR (w.heap.size + 1) (r4V zr), CellsR w.heap.size (r4V (r0, r1, r2, r3))] W1 := by rw [← hW1]; exact hZ
  have HZ := Lib.hid hZ
  have HC := Lib.hid (fun W => checkTb_nil k W)
  have hv := own_zero hZ
  have f0 := (hv 0 (by omega)).1
  have g0 := (hv 0 (by omega)).2
  have f1 := (hv 1 (by omega)).1
  have g1 := (hv 1 (by omega)).2
  have f2 := (hv 2 (by omega)).1
  have g2 := (hv 2 (by omega)).2
  have f3 := (hv 3 (by omega)).1
  have g3 := (hv 3 (by omega)).2
  clear hZ
  go_enter Try.func24, Try.ntmps24
  go_wp2_with (go_at_call 38; refine (HC.out _).mono ?_; rintro e V ⟨rfl, rfl⟩)
  have t4 := Rw.four_set W1 (w.heap.size + 1) [] (.int .i64 0) (.int .i64 0) (.int .i64 0) (.int .i64 0) hv
  refine bodyPost_ret (v := .tuple #[rowW zr, .bool false, .int .i64 2]) (by simp [results, Try.results24, go_sem, t4.1, t4.2.1, t4.2.2.1, t4.2.2.2, rowW, zr]) rfl ?_
  exact ⟨rfl, (own_scratch HZ.out (four_fr (w.heap.size + 1) _ _ _ _ _)).low⟩
set_option maxHeartbeats 4000000 in
set_option maxRecDepth 100000 in
/-- A nil table is the same as one without rows. -/
theorem sameTb_nil (p : Option Addr) (w : World) (hL : ∀ V, Below w.heap.size w V → Calls Try.prog 15 #[.pointer p] V fun e V2 => e = .returned (.int .i64 0) ∧ V = V2) :
    Calls Try.prog 28 #[.pointer none, .pointer p] w fun e V => e = .returned (.bool true) ∧ Below w.heap.size w V := by
  have hb0 : Below w.heap.size w ((w.alloc (.cells #[.pointer p] 27)).alloc (.cells #[.bool false] 4)) := (al1 w _).trans ((al1 (w.alloc (.cells #[.pointer p] 27)) _).mono (by simp))
  obtain ⟨W, hW⟩ : ∃ W, (w.alloc (.cells #[.pointer p] 27)).alloc (.cells #[.bool false] 4) = W := ⟨_, rfl⟩
  have s1 : W.heap.size = w.heap.size + 2 := by rw [← hW]; simp
  have x0 : W.cell? ⟨w.heap.size, 0, none⟩ = some (.pointer p) := by rw [← hW]; simp
  have x2 : W.cell? ⟨w.heap.size + 1, 0, none⟩ = some (.bool false) := by rw [← hW]; simp
  have x3 : W.frozen? ⟨w.heap.size + 1, 0, none⟩ = false := by rw [← hW]; simp
  rw [hW] at hb0
  have HX : Hid (∀ V, Below W.heap.size W V → V.cell? ⟨w.heap.size, 0, none⟩ = some (.pointer p) ∧ V.cell? ⟨w.heap.size + 1, 0, none⟩ = some (.bool false) ∧ V.frozen? ⟨w.heap.size + 1, 0, none⟩ = false) := Lib.hid (fun V hb => ⟨old_cell x0 hb, old_cell x2 hb, (hb.frozen (p := ⟨w.heap.size + 1, 0, none⟩) (block_of_cell x2)).trans x3⟩)
  have HEnd : Hid (∀ V, Below W.heap.size W V → Below w.heap.size w (V.setCell ⟨w.heap.size + 1, 0, none⟩ (.bool true))) := Lib.hid (fun V h => (hb0.trans (h.mono hb0.size)).setCell (p := ⟨w.heap.size + 1, 0, none⟩) (Nat.le_succ _) _)
  have HL0 : Hid (∀ n, Calls Try.prog 15 #[.pointer none] (W.drewN n) fun e V2 => e = .returned (.int .i64 0) ∧ V2 = W.drewN n) := Lib.hid (fun n => (lenTb_nil (W.drewN n)).mono (fun e V h => ⟨h.1, h.2.symm⟩))
  have HL1 : Hid (∀ n, Calls Try.prog 15 #[.pointer p] (W.drewN n) fun e V2 => e = .returned (.int .i64 0) ∧ V2 = W.drewN n) := Lib.hid (fun n => (hL (W.drewN n) (hb0.trans ((below_drewN W n).mono hb0.size))).mono (fun e V h => ⟨h.1, h.2.symm⟩))
  have HAll := Lib.hid (fun W => allTb_nil W)
  have HS1 := Lib.hid s1
  clear hL hb0 s1
  refine calls_marks Try.func28 rfl ?_
  simp only [Try.ntmps28, List.size_toArray, List.length_cons, List.length_nil, Nat.reduceAdd, Nat.reduceSub, Array.replicate_succ, Array.replicate_zero, List.push_toArray, List.append_toArray, List.nil_append, List.cons_append]
  refine wpIn_wide.2 ?_
  go_wp2
  clear x0 x2 x3
  obtain ⟨y0, y2, y3⟩ := HX.out _ (Below.refl _ _)
  go_quiet (first
    | (go_at_call 15; refine Calls.quiet_of_same (HL0.out _))
    | (go_at_call 15; refine Calls.quiet_of_same (HL1.out _)))
  have HQ := Lib.hid (below_drewN W nq)
  obtain ⟨V, hV⟩ : ∃ V, W.drewN nq = V := ⟨_, rfl⟩
  rw [hV] at HQ ⊢
  clear y0 y2 y3 hV
  go_wp2_with (go_at_call 29; refine (HAll.out _).mono ?_; rintro e V2 ⟨rfl, rfl⟩)
  refine (wpIn_wide (n := 3)).1 ?_
  refine' wpIn_range_box (by omega) (gf := 50) (lb := #[]) rfl (enters_any Try.func50 (by kernel_rfl) rfl) (encs := rowE) (stops := True) (xs := ([] : List Pr)) (R := fun _ => False) (K0 := fun _ => False)
    (fun o1 o2 => all1Tb_tells _) (fun x => rfl) (fun k hk => hk.elim) (fun k hk => hk.elim)
    (Still2 V) (fun _ _ _ _ => False) Still2.clos (fun _ _ _ _ _ _ h _ _ => h) (.inl trivial) ⟨Fr.refl _ _, fun _ h => h.elim⟩
    (fun x => .cells #[.int .i64 (decT x.2).1, .int .i64 (decT x.2).2.1, .int .i64 (decT x.2).2.2.1, .int .i64 (decT x.2).2.2.2] 37) (fun K pre W h k hk => (h.2 k hk).2) _ ?assign ?body ?done ?stop
  case assign =>
    intro l' x W2 K1 hK1
    simp only [rowE, rowW]
    gi_wp2
    obtain ⟨r, hr⟩ : ∃ r, W2.heap.size = r := ⟨_, rfl⟩
    rw [hr] at hK1 ⊢
    exact hK1
  case body =>
    intro l' r K pre x post W1 hx
    exact absurd hx (by simp)
  case stop =>
    intro D c K pre x post W _ h
    exact h.elim
  case done =>
    rintro D K W3 hI _ hKD hsD hDef
    have H3 := Lib.hid (And.intro (HQ.out.trans (hI.low.mono HQ.out.size)) (And.intro hsD hDef))
    obtain ⟨y0, y2, y3⟩ := HX.out _ H3.out.1
    clear hI hKD hsD hDef y0
    gi_wp2
    go_wp2
    obtain ⟨hb3, hsD, hDef⟩ := H3.out
    have hVs := HQ.out.size
    have s1 := HS1.out
    have hne : D ≠ w.heap.size + 1 := by omega
    refine leave_marks [D] _ (by simp) (fun E hE => ?_) (fun W' hf => ?_)
    · simp at hE; subst hE
      exact (Below.heap_setCell W3 ⟨w.heap.size + 1, 0, none⟩ (.bool true) E hne).trans hDef
    · have hc : W'.cell? ⟨w.heap.size + 1, 0, none⟩ = some (.bool true) := cell_fr hf (show (W3.setCell ⟨w.heap.size + 1, 0, none⟩ (.bool true)).cell? ⟨w.heap.size + 1, 0, none⟩ = some (.bool true) from World.cell?_setCell_same' _ _ _ (by rw [y2]; rfl)) (by simp; omega)
      have b4 := HEnd.out W3 hb3
      exact ⟨_, results_bool rfl _ W' (w.heap.size + 1) (.bool true) rfl hc, rfl, b4.trans (hf.below (B := w.heap.size) b4.size (fun k x e => by simp at e; subst e; omega))⟩
set_option maxHeartbeats 16000000 in
set_option maxRecDepth 100000 in
theorem tableNil_walk (o : OpT) (ac lo hi am : Int) (w : World) (_ho : OkOp o) (_hlo : Ky.In lo) (_hhi : Ky.In hi) :
    Calls Try.prog 9 #[.agg (opV o).toArray, .agg #[.int .i64 ac, .int .i64 lo, .int .i64 hi, .int .i64 am]] w (Yes w) := by
  clear _ho _hlo _hhi
  obtain ⟨ask, k, r0, r1, r2, r3⟩ := o
  show Calls _ _ #[.agg #[.int .i64 ask, .string ⟨k.toArray⟩, .int .i64 r0, .int .i64 r1, .int .i64 r2, .int .i64 r3], .agg #[.int .i64 ac, .int .i64 lo, .int .i64 hi, .int .i64 am]] w _
  have HA := Lib.hid (fun W => awakeT_any W)
  have hb0 : Below w.heap.size w (((w.alloc (.cells #[.int .i64 ask, .string ⟨k.toArray⟩, .int .i64 r0, .int .i64 r1, .int .i64 r2, .int .i64 r3] 52)).alloc (.cells #[.int .i64 ac, .int .i64 lo, .int .i64 hi, .int .i64 am] 43)).alloc (.cells #[.bool false] 4)) := (al1 w _).trans (((al1 (w.alloc (.cells #[.int .i64 ask, .string ⟨k.toArray⟩, .int .i64 r0, .int .i64 r1, .int .i64 r2, .int .i64 r3] 52)) _).mono (by simp)).trans ((al1 ((w.alloc (.cells #[.int .i64 ask, .string ⟨k.toArray⟩, .int .i64 r0, .int .i64 r1, .int .i64 r2, .int .i64 r3] 52)).alloc (.cells #[.int .i64 ac, .int .i64 lo, .int .i64 hi, .int .i64 am] 43)) _).mono (by simp; omega)))
  obtain ⟨W, hW⟩ : ∃ W, ((w.alloc (.cells #[.int .i64 ask, .string ⟨k.toArray⟩, .int .i64 r0, .int .i64 r1, .int .i64 r2, .int .i64 r3] 52)).alloc (.cells #[.int .i64 ac, .int .i64 lo, .int .i64 hi, .int .i64 am] 43)).alloc (.cells #[.bool false] 4) = W := ⟨_, rfl⟩
  have s1 : W.heap.size = w.heap.size + 3 := by rw [← hW]; simp
  have hx : (fun V : World => (V.cell? ⟨w.heap.size, 0, none⟩ = some (.int .i64 ask) ∧ V.cell? ⟨w.heap.size, 1, none⟩ = some (.string ⟨k.toArray⟩) ∧ V.cell? ⟨w.heap.size, 2, none⟩ = some (.int .i64 r0) ∧ V.cell? ⟨w.heap.size, 3, none⟩ = some (.int .i64 r1) ∧ V.cell? ⟨w.heap.size, 4, none⟩ = some (.int .i64 r2) ∧ V.cell? ⟨w.heap.size, 5, none⟩ = some (.int .i64 r3) ∧ V.cell? ⟨w.heap.size + 1, 0, none⟩ = some (.int .i64 ac) ∧ V.cell? ⟨w.heap.size + 1, 1, none⟩ = some (.int .i64 lo) ∧ V.cell? ⟨w.heap.size + 1, 2, none⟩ = some (.int .i64 hi) ∧ V.cell? ⟨w.heap.size + 1, 3, none⟩ = some (.int .i64 am) ∧ V.cell? ⟨w.heap.size + 2, 0, none⟩ = some (.bool false) ∧ V.frozen? ⟨w.heap.size + 2, 0, none⟩ = false)) W := by
    rw [← hW]
    refine ⟨old_cell (old_cell (cell_new w #[.int .i64 ask, .string ⟨k.toArray⟩, .int .i64 r0, .int .i64 r1, .int .i64 r2, .int .i64 r3] 52 0 _ rfl) (al1 _ _)) (al1 _ _), old_cell (old_cell (cell_new w #[.int .i64 ask, .string ⟨k.toArray⟩, .int .i64 r0, .int .i64 r1, .int .i64 r2, .int .i64 r3] 52 1 _ rfl) (al1 _ _)) (al1 _ _), old_cell (old_cell (cell_new w #[.int .i64 ask, .string ⟨k.toArray⟩, .int .i64 r0, .int .i64 r1, .int .i64 r2, .int .i64 r3] 52 2 _ rfl) (al1 _ _)) (al1 _ _), old_cell (old_cell (cell_new w #[.int .i64 ask, .string ⟨k.toArray⟩, .int .i64 r0, .int .i64 r1, .int .i64 r2, .int .i64 r3] 52 3 _ rfl) (al1 _ _)) (al1 _ _), old_cell (old_cell (cell_new w #[.int .i64 ask, .string ⟨k.toArray⟩, .int .i64 r0, .int .i64 r1, .int .i64 r2, .int .i64 r3] 52 4 _ rfl) (al1 _ _)) (al1 _ _), old_cell (old_cell (cell_new w #[.int .i64 ask, .string ⟨k.toArray⟩, .int .i64 r0, .int .i64 r1, .int .i64 r2, .int .i64 r3] 52 5 _ rfl) (al1 _ _)) (al1 _ _), ?_, ?_, ?_, ?_, ?_, ?_⟩
    · have := old_cell (cell_new (w.alloc (.cells #[.int .i64 ask, .string ⟨k.toArray⟩, .int .i64 r0, .int .i64 r1, .int .i64 r2, .int .i64 r3] 52)) #[.int .i64 ac, .int .i64 lo, .int .i64 hi, .int .i64 am] 43 0 _ rfl) (al1 _ (.cells #[.bool false] 4)); rwa [World.size_alloc] at this
    · have := old_cell (cell_new (w.alloc (.cells #[.int .i64 ask, .string ⟨k.toArray⟩, .int .i64 r0, .int .i64 r1, .int .i64 r2, .int .i64 r3] 52)) #[.int .i64 ac, .int .i64 lo, .int .i64 hi, .int .i64 am] 43 1 _ rfl) (al1 _ (.cells #[.bool false] 4)); rwa [World.size_alloc] at this
    · have := old_cell (cell_new (w.alloc (.cells #[.int .i64 ask, .string ⟨k.toArray⟩, .int .i64 r0, .int .i64 r1, .int .i64 r2, .int .i64 r3] 52)) #[.int .i64 ac, .int .i64 lo, .int .i64 hi, .int .i64 am] 43 2 _ rfl) (al1 _ (.cells #[.bool false] 4)); rwa [World.size_alloc] at this
    · have := old_cell (cell_new (w.alloc (.cells #[.int .i64 ask, .string ⟨k.toArray⟩, .int .i64 r0, .int .i64 r1, .int .i64 r2, .int .i64 r3] 52)) #[.int .i64 ac, .int .i64 lo, .int .i64 hi, .int .i64 am] 43 3 _ rfl) (al1 _ (.cells #[.bool false] 4)); rwa [World.size_alloc] at this
    · have := cell_new ((w.alloc (.cells #[.int .i64 ask, .string ⟨k.toArray⟩, .int .i64 r0, .int .i64 r1, .int .i64 r2, .int .i64 r3] 52)).alloc (.cells #[.int .i64 ac, .int .i64 lo, .int .i64 hi, .int .i64 am] 43)) #[.bool false] 4 0 _ rfl; rwa [World.size_alloc, World.size_alloc] at this
    · have := froz_new ((w.alloc (.cells #[.int .i64 ask, .string ⟨k.toArray⟩, .int .i64 r0, .int .i64 r1, .int .i64 r2, .int .i64 r3] 52)).alloc (.cells #[.int .i64 ac, .int .i64 lo, .int .i64 hi, .int .i64 am] 43)) #[.bool false] 4; rwa [World.size_alloc, World.size_alloc] at this
  simp only at hx
  rw [hW] at hb0
  have HX : Hid (∀ V, Below W.heap.size W V → (V.cell? ⟨w.heap.size, 0, none⟩ = some (.int .i64 ask) ∧ V.cell? ⟨w.heap.size, 1, none⟩ = some (.string ⟨k.toArray⟩) ∧ V.cell? ⟨w.heap.size, 2, none⟩ = some (.int .i64 r0) ∧ V.cell? ⟨w.heap.size, 3, none⟩ = some (.int .i64 r1) ∧ V.cell? ⟨w.heap.size, 4, none⟩ = some (.int .i64 r2) ∧ V.cell? ⟨w.heap.size, 5, none⟩ = some (.int .i64 r3) ∧ V.cell? ⟨w.heap.size + 1, 0, none⟩ = some (.int .i64 ac) ∧ V.cell? ⟨w.heap.size + 1, 1, none⟩ = some (.int .i64 lo) ∧ V.cell? ⟨w.heap.size + 1, 2, none⟩ = some (.int .i64 hi) ∧ V.cell? ⟨w.heap.size + 1, 3, none⟩ = some (.int .i64 am) ∧ V.cell? ⟨w.heap.size + 2, 0, none⟩ = some (.bool false) ∧ V.frozen? ⟨w.heap.size + 2, 0, none⟩ = false)) := Lib.hid (fun V hb => by
    obtain ⟨h0, h1, h2, h3, h4, h5, h6, h7, h8, h9, h10, h11⟩ := hx
    exact ⟨old_cell h0 hb, old_cell h1 hb, old_cell h2 hb, old_cell h3 hb, old_cell h4 hb, old_cell h5 hb, old_cell h6 hb, old_cell h7 hb, old_cell h8 hb, old_cell h9 hb, old_cell h10 hb, (hb.frozen (p := ⟨w.heap.size + 2, 0, none⟩) (block_of_cell h10)).trans h11⟩)
  have HEnd : Hid (∀ V, Below W.heap.size W V → Below w.heap.size w (V.setCell ⟨w.heap.size + 2, 0, none⟩ (.bool true))) := Lib.hid (fun V h => (hb0.trans (h.mono hb0.size)).setCell (p := ⟨w.heap.size + 2, 0, none⟩) (by show w.heap.size ≤ w.heap.size + 2; omega) _)
  obtain ⟨x0, x1, x2, x3, x4, x5, x6, x7, x8, x9, x10, x11⟩ := hx
  have HS1 := Lib.hid s1
  have HAll := Lib.hid (fun W => allTb_nil W)
  have HP : Hid (∀ V, Calls Try.prog 24 #[.pointer none, .string ⟨k.toArray⟩, .agg #[.int .i64 r0, .int .i64 r1, .int .i64 r2, .int .i64 r3]] V fun e V2 => e = .returned (.tuple #[.agg #[.int .i64 0, .int .i64 0, .int .i64 0, .int .i64 0], .bool false, .int .i64 2]) ∧ Below V.heap.size V V2) := Lib.hid (fun V => putTb_nil k r0 r1 r2 r3 V)
  have HD : Hid (∀ V, Calls Try.prog 26 #[.pointer none, .string ⟨k.toArray⟩] V fun e V2 => e = .returned (.tuple #[.agg #[.int .i64 0, .int .i64 0, .int .i64 0, .int .i64 0], .int .i64 2]) ∧ Below V.heap.size V V2) := Lib.hid (fun V => delTb_nil k V)
  have HG : Hid (∀ V, Calls Try.prog 16 #[.pointer none, .string ⟨k.toArray⟩] V fun e V2 => e = .returned (.tuple #[.agg #[.int .i64 0, .int .i64 0, .int .i64 0, .int .i64 0], .int .i64 2]) ∧ Below V.heap.size V V2) := Lib.hid (fun V => getTb_nil k V)
  have HFd := Lib.hid (fun V => findTb_nil ac lo hi am V)
  have HNw := Lib.hid (fun X V (h : Own V.heap.size V X V) => own_tabNew 1 2 (by omega) (by omega) (by omega) h)
  have HLn := Lib.hid (fun V => lenTb_nil V)
  have HMo := Lib.hid (fun V => mostTb_nil V)
  have HCk := Lib.hid (fun V => checkTbl_nil V)
  have HCp := Lib.hid (fun V => copyTb_nil V)
  have HS := Lib.hid (fun V => sameTb_nil none V (fun V2 _ => lenTb_nil V2))
  have q0 := fun x y w => eql_func_nil Try.underlying69 (.func 50) x y w
  have hq := Rw.eqlRow 0 0 0 0 0 0 0 0 true (by simp)
  clear hb0 s1
  refine calls_marks Try.func9 rfl ?_
  simp only [Try.ntmps9, List.size_toArray, List.length_cons, List.length_nil, Nat.reduceAdd, Nat.reduceSub, Array.replicate_succ, Array.replicate_zero, List.push_toArray, List.append_toArray, List.nil_append, List.cons_append]
  refine wpIn_wide.2 ?_
  go_wp2_with (go_at_call 29; refine (HAll.out _).mono ?_; rintro e V2 ⟨rfl, rfl⟩)
  refine (wpIn_wide (n := 3)).1 ?_
  refine' wpIn_range_tells (by omega) (gf := 50) (lb := #[]) rfl (enters_any Try.func50 (by kernel_rfl) rfl) (encs := rowE) (stops := True) (xs := ([] : List Pr)) (R := fun _ => False) (K0 := fun _ => False)
    (fun o1 o2 => all1Tb_tells _) (fun x => rfl) (fun k hk => hk.elim) (fun k hk => hk.elim)
    (Still2 W) (fun _ _ _ _ => False) Still2.clos (fun _ _ _ _ _ _ h _ _ => h) (.inl trivial) ⟨Fr.refl _ _, fun _ h => h.elim⟩ _ ?assign ?body ?done ?stop
  case assign =>
    intro l' x W2 K1 hK1
    simp only [rowE, rowW]
    gi_wp2
    exact hK1
  case body =>
    intro l' K pre x post W2 hx
    exact absurd hx (by simp)
  case stop =>
    intro D c K pre x post W2 _ h
    exact h.elim
  case done =>
    rintro D K W3 hI _ hKD hsD hDef
    have H3 := Lib.hid (And.intro hI.low (And.intro hsD hDef))
    have HX3 : Hid (∀ V, Below W3.heap.size W3 V → (V.cell? ⟨w.heap.size, 0, none⟩ = some (.int .i64 ask) ∧ V.cell? ⟨w.heap.size, 1, none⟩ = some (.string ⟨k.toArray⟩) ∧ V.cell? ⟨w.heap.size, 2, none⟩ = some (.int .i64 r0) ∧ V.cell? ⟨w.heap.size, 3, none⟩ = some (.int .i64 r1) ∧ V.cell? ⟨w.heap.size, 4, none⟩ = some (.int .i64 r2) ∧ V.cell? ⟨w.heap.size, 5, none⟩ = some (.int .i64 r3) ∧ V.cell? ⟨w.heap.size + 1, 0, none⟩ = some (.int .i64 ac) ∧ V.cell? ⟨w.heap.size + 1, 1, none⟩ = some (.int .i64 lo) ∧ V.cell? ⟨w.heap.size + 1, 2, none⟩ = some (.int .i64 hi) ∧ V.cell? ⟨w.heap.size + 1, 3, none⟩ = some (.int .i64 am) ∧ V.cell? ⟨w.heap.size + 2, 0, none⟩ = some (.bool false) ∧ V.frozen? ⟨w.heap.size + 2, 0, none⟩ = false)) := Lib.hid (fun V hb => HX.out V (H3.out.1.trans (hb.mono H3.out.1.size)))
    have H0 := Lib.hid (Own.nil W3)
    clear x0 x1 x2 x3 x4 x5 x6 x7 x8 x9 x10 x11
    obtain ⟨y0, y1, y2, y3, y4, y5, y6, y7, y8, y9, y10, y11⟩ := HX3.out _ (Below.refl _ _)
    clear hI hKD hsD hDef
    gi_wp2
    go_wp2_with (first
      | (go_at_call 24; refine (HP.out _).mono ?_; rintro e V4 ⟨rfl, hb⟩; have H4 := Lib.hid (own_newRow (H0.out.later hb) (0, 0, 0, 0) 37); obtain ⟨z0, z1, z2, z3, z4, z5, z6, z7, z8, z9, z10, z11⟩ := HX3.out _ H4.out.low; clear hb)
      | (go_at_call 26; refine (HD.out _).mono ?_; rintro e V5 ⟨rfl, hb⟩; have H5 := Lib.hid (own_newRow (H4.out.later hb) (0, 0, 0, 0) 37); obtain ⟨u0, u1, u2, u3, u4, u5, u6, u7, u8, u9, u10, u11⟩ := HX3.out _ H5.out.low; clear hb)
      | (go_at_call 16; refine (HG.out _).mono ?_; rintro e V6 ⟨rfl, hb⟩; have H6 := Lib.hid (own_newRow (H5.out.later hb) (0, 0, 0, 0) 37); obtain ⟨v0, v1, v2, v3, v4, v5, v6, v7, v8, v9, v10, v11⟩ := HX3.out _ H6.out.low; clear hb)
      | (go_at_call 14; refine (HFd.out _).mono ?_; rintro e V7 ⟨rfl, hb⟩; have H7 := Lib.hid (H6.out.later hb); clear hb)
      | (go_at_call 18; refine (own_tabNew 1 2 (by omega) (by omega) (by omega) H7.out).mono ?_; rintro e V8 ⟨s, rfl, h8⟩; have H8 := Lib.hid h8; obtain ⟨pa0, pa1, pa2, pa3⟩ := own_rowM (p := V4.heap.size) (r := (0, 0, 0, 0)) h8 (by simp); obtain ⟨pb0, pb1, pb2, pb3⟩ := own_rowM (p := V5.heap.size) (r := (0, 0, 0, 0)) h8 (by simp); obtain ⟨pc0, pc1, pc2, pc3⟩ := own_rowM (p := V6.heap.size) (r := (0, 0, 0, 0)) h8 (by simp); clear h8; have tok1 : True := trivial)
      | (go_at_call 15; refine (HLn.out _).mono ?_; rintro e Va ⟨rfl, rfl⟩)
      | (go_at_call 21; refine (HMo.out _).mono ?_; rintro e Va ⟨rfl, rfl⟩)
      | (go_at_call 22; refine (HCk.out _).mono ?_; rintro e V9 ⟨rfl, hb⟩; have H9 := Lib.hid (H8.out.later hb); clear hb)
      | (go_at_call 30; refine (HCp.out _).mono ?_; rintro e Va ⟨rfl, rfl⟩)
      | (go_at_call 28; have _t := tok1; refine (HS.out _).mono ?_; rintro e V10 ⟨rfl, hb⟩; have H10 := Lib.hid (H9.out.later hb); clear hb tok1 _t)
      | (go_at_call 28; refine (sameTb_nil _ _ (fun V hb => own_tabLen (H10.out.later hb))).mono ?_; rintro e V11 ⟨rfl, hb⟩; have H11 := Lib.hid (H10.out.later hb); clear hb)
      | (go_at_call 12; refine (HA.out _).mono ?_; rintro e V12 ⟨rfl, hb⟩; have H12 := Lib.hid (H11.out.later hb); obtain ⟨q0, q1, q2, q3, q4, q5, q6, q7, q8, q9, q10, q11⟩ := HX3.out _ H12.out.low; clear hb))
    obtain ⟨hb3, hsD, hDef⟩ := H3.out
    have s1 := HS1.out
    have hne : D ≠ w.heap.size + 2 := by omega
    have hDs : D < W3.heap.size := (Array.getElem?_eq_some_iff.1 hDef).1
    refine leave_marks [D] _ (by simp) (fun E hE => ?_) (fun W' hf => ?_)
    · simp at hE; subst hE
      exact (Below.heap_setCell V12 ⟨w.heap.size + 2, 0, none⟩ (.bool true) E hne).trans ((H12.out.low.block E hDs).trans hDef)
    · have hc : W'.cell? ⟨w.heap.size + 2, 0, none⟩ = some (.bool true) := cell_fr hf (show (V12.setCell ⟨w.heap.size + 2, 0, none⟩ (.bool true)).cell? ⟨w.heap.size + 2, 0, none⟩ = some (.bool true) from World.cell?_setCell_same' _ _ _ (by rw [q10]; rfl)) (by simp; omega)
      have b4 := HEnd.out V12 (hb3.trans (H12.out.low.mono hb3.size))
      exact ⟨_, results_bool rfl _ W' (w.heap.size + 2) (.bool true) rfl hc, rfl, b4.trans (hf.below (B := w.heap.size) b4.size (fun k x e => by simp at e; subst e; omega))⟩
end Tb
end Go.Proofs.Ytecnijnmgdfdhaa
