/- Joined: Bf16. -/
import Derived.Test.YtecnijnmgdfdhaaGreatYBfF
/- Law08: a nil buffer. -/
namespace Go.Proofs.YtecnijnmgdfdhaaGreat
namespace Bf
open Go.RowKit Tr Tb
open Ky (less)
attribute [local go_sem] Oper.semAt_some
/-- A law's answer. -/
def Yes (w : World) (e : Ending) (V : World) : Prop := e = .returned (.bool true) ∧ Below w.heap.size w V
theorem cell_new (w : World) (vs : Array Value) (t : TypeId) (i : Nat) (v : Value) (h : vs.toList[i]? = some v) : (w.alloc (.cells vs t)).cell? ⟨w.heap.size, i, none⟩ = some v := by simp; simpa using h
theorem froz_new (w : World) (vs : Array Value) (t : TypeId) : (w.alloc (.cells vs t)).frozen? ⟨w.heap.size, 0, none⟩ = false := by simp
def Still3 (W0 : World) (K : Nat → Prop) (pre : List WQ) (W : World) : Prop := Fr noCells W0 W ∧ ∀ k, K k → W0.heap.size ≤ k ∧ k < W.heap.size
theorem Still3.clos {W0 : World} : Clos (Still3 W0) := by
  intro K K' pre W W' ⟨h1, h2⟩ hf hK
  refine ⟨h1.trans hf (fun b o h => .inr (h2 b h).1), fun k hk => ?_⟩
  have := hf.size
  have := h1.size
  rcases hK k hk with h | h
  · have := h2 k h; omega
  · omega
theorem Still3.low {W0 W : World} {K : Nat → Prop} {pre : List WQ} (h : Still3 W0 K pre W) : Below W0.heap.size W0 W := h.1.below (Nat.le_refl _) (fun _ _ h => h.elim)
set_option maxHeartbeats 16000000 in
set_option maxRecDepth 100000 in
theorem bufferNil_walk (o : OpT) (ac lo hi am : Int) (w : World) (_ho : OkOp o) (_hlo : Ky.In lo) (_hhi : Ky.In hi) :
    Calls Tryz.prog 9 #[.agg (opV o).toArray, .agg #[.int .i64 ac, .int .i64 lo, .int .i64 hi, .int .i64 am]] w (Yes w) := by
  clear _ho _hlo _hhi
  obtain ⟨ask, k, r0, r1, r2, r3⟩ := o
  show Calls _ _ #[.agg #[.int .i64 ask, .string ⟨k.toArray⟩, .int .i64 r0, .int .i64 r1, .int .i64 r2, .int .i64 r3], .agg #[.int .i64 ac, .int .i64 lo, .int .i64 hi, .int .i64 am]] w _
  have HA := Lib.hid (fun W => awakeB_any W)
  have hb0 : Below w.heap.size w (((w.alloc (.cells #[.int .i64 ask, .string ⟨k.toArray⟩, .int .i64 r0, .int .i64 r1, .int .i64 r2, .int .i64 r3] 43)).alloc (.cells #[.int .i64 ac, .int .i64 lo, .int .i64 hi, .int .i64 am] 52)).alloc (.cells #[.bool false] 4)) := (al1 w _).trans (((al1 (w.alloc (.cells #[.int .i64 ask, .string ⟨k.toArray⟩, .int .i64 r0, .int .i64 r1, .int .i64 r2, .int .i64 r3] 43)) _).mono (by simp)).trans ((al1 ((w.alloc (.cells #[.int .i64 ask, .string ⟨k.toArray⟩, .int .i64 r0, .int .i64 r1, .int .i64 r2, .int .i64 r3] 43)).alloc (.cells #[.int .i64 ac, .int .i64 lo, .int .i64 hi, .int .i64 am] 52)) _).mono (by simp; omega)))
  obtain ⟨W, hW⟩ : ∃ W, ((w.alloc (.cells #[.int .i64 ask, .string ⟨k.toArray⟩, .int .i64 r0, .int .i64 r1, .int .i64 r2, .int .i64 r3] 43)).alloc (.cells #[.int .i64 ac, .int .i64 lo, .int .i64 hi, .int .i64 am] 52)).alloc (.cells #[.bool false] 4) = W := ⟨_, rfl⟩
  have s1 : W.heap.size = w.heap.size + 3 := by rw [← hW]; simp
  have hx : (fun V : World => (V.cell? ⟨w.heap.size, 0, none⟩ = some (.int .i64 ask) ∧ V.cell? ⟨w.heap.size, 1, none⟩ = some (.string ⟨k.toArray⟩) ∧ V.cell? ⟨w.heap.size, 2, none⟩ = some (.int .i64 r0) ∧ V.cell? ⟨w.heap.size, 3, none⟩ = some (.int .i64 r1) ∧ V.cell? ⟨w.heap.size, 4, none⟩ = some (.int .i64 r2) ∧ V.cell? ⟨w.heap.size, 5, none⟩ = some (.int .i64 r3) ∧ V.cell? ⟨w.heap.size + 1, 0, none⟩ = some (.int .i64 ac) ∧ V.cell? ⟨w.heap.size + 1, 1, none⟩ = some (.int .i64 lo) ∧ V.cell? ⟨w.heap.size + 1, 2, none⟩ = some (.int .i64 hi) ∧ V.cell? ⟨w.heap.size + 1, 3, none⟩ = some (.int .i64 am) ∧ V.cell? ⟨w.heap.size + 2, 0, none⟩ = some (.bool false) ∧ V.frozen? ⟨w.heap.size + 2, 0, none⟩ = false)) W := by
    rw [← hW]
    refine ⟨old_cell (old_cell (cell_new w #[.int .i64 ask, .string ⟨k.toArray⟩, .int .i64 r0, .int .i64 r1, .int .i64 r2, .int .i64 r3] 43 0 _ rfl) (al1 _ _)) (al1 _ _), old_cell (old_cell (cell_new w #[.int .i64 ask, .string ⟨k.toArray⟩, .int .i64 r0, .int .i64 r1, .int .i64 r2, .int .i64 r3] 43 1 _ rfl) (al1 _ _)) (al1 _ _), old_cell (old_cell (cell_new w #[.int .i64 ask, .string ⟨k.toArray⟩, .int .i64 r0, .int .i64 r1, .int .i64 r2, .int .i64 r3] 43 2 _ rfl) (al1 _ _)) (al1 _ _), old_cell (old_cell (cell_new w #[.int .i64 ask, .string ⟨k.toArray⟩, .int .i64 r0, .int .i64 r1, .int .i64 r2, .int .i64 r3] 43 3 _ rfl) (al1 _ _)) (al1 _ _), old_cell (old_cell (cell_new w #[.int .i64 ask, .string ⟨k.toArray⟩, .int .i64 r0, .int .i64 r1, .int .i64 r2, .int .i64 r3] 43 4 _ rfl) (al1 _ _)) (al1 _ _), old_cell (old_cell (cell_new w #[.int .i64 ask, .string ⟨k.toArray⟩, .int .i64 r0, .int .i64 r1, .int .i64 r2, .int .i64 r3] 43 5 _ rfl) (al1 _ _)) (al1 _ _), ?_, ?_, ?_, ?_, ?_, ?_⟩
    · have := old_cell (cell_new (w.alloc (.cells #[.int .i64 ask, .string ⟨k.toArray⟩, .int .i64 r0, .int .i64 r1, .int .i64 r2, .int .i64 r3] 43)) #[.int .i64 ac, .int .i64 lo, .int .i64 hi, .int .i64 am] 52 0 _ rfl) (al1 _ (.cells #[.bool false] 4)); rwa [World.size_alloc] at this
    · have := old_cell (cell_new (w.alloc (.cells #[.int .i64 ask, .string ⟨k.toArray⟩, .int .i64 r0, .int .i64 r1, .int .i64 r2, .int .i64 r3] 43)) #[.int .i64 ac, .int .i64 lo, .int .i64 hi, .int .i64 am] 52 1 _ rfl) (al1 _ (.cells #[.bool false] 4)); rwa [World.size_alloc] at this
    · have := old_cell (cell_new (w.alloc (.cells #[.int .i64 ask, .string ⟨k.toArray⟩, .int .i64 r0, .int .i64 r1, .int .i64 r2, .int .i64 r3] 43)) #[.int .i64 ac, .int .i64 lo, .int .i64 hi, .int .i64 am] 52 2 _ rfl) (al1 _ (.cells #[.bool false] 4)); rwa [World.size_alloc] at this
    · have := old_cell (cell_new (w.alloc (.cells #[.int .i64 ask, .string ⟨k.toArray⟩, .int .i64 r0, .int .i64 r1, .int .i64 r2, .int .i64 r3] 43)) #[.int .i64 ac, .int .i64 lo, .int .i64 hi, .int .i64 am] 52 3 _ rfl) (al1 _ (.cells #[.bool false] 4)); rwa [World.size_alloc] at this
    · have := cell_new ((w.alloc (.cells #[.int .i64 ask, .string ⟨k.toArray⟩, .int .i64 r0, .int .i64 r1, .int .i64 r2, .int .i64 r3] 43)).alloc (.cells #[.int .i64 ac, .int .i64 lo, .int .i64 hi, .int .i64 am] 52)) #[.bool false] 4 0 _ rfl; rwa [World.size_alloc, World.size_alloc] at this
    · have := froz_new ((w.alloc (.cells #[.int .i64 ask, .string ⟨k.toArray⟩, .int .i64 r0, .int .i64 r1, .int .i64 r2, .int .i64 r3] 43)).alloc (.cells #[.int .i64 ac, .int .i64 lo, .int .i64 hi, .int .i64 am] 52)) #[.bool false] 4; rwa [World.size_alloc, World.size_alloc] at this
  simp only at hx
  rw [hW] at hb0
  have HX : Hid (∀ V, Below W.heap.size W V → (V.cell? ⟨w.heap.size, 0, none⟩ = some (.int .i64 ask) ∧ V.cell? ⟨w.heap.size, 1, none⟩ = some (.string ⟨k.toArray⟩) ∧ V.cell? ⟨w.heap.size, 2, none⟩ = some (.int .i64 r0) ∧ V.cell? ⟨w.heap.size, 3, none⟩ = some (.int .i64 r1) ∧ V.cell? ⟨w.heap.size, 4, none⟩ = some (.int .i64 r2) ∧ V.cell? ⟨w.heap.size, 5, none⟩ = some (.int .i64 r3) ∧ V.cell? ⟨w.heap.size + 1, 0, none⟩ = some (.int .i64 ac) ∧ V.cell? ⟨w.heap.size + 1, 1, none⟩ = some (.int .i64 lo) ∧ V.cell? ⟨w.heap.size + 1, 2, none⟩ = some (.int .i64 hi) ∧ V.cell? ⟨w.heap.size + 1, 3, none⟩ = some (.int .i64 am) ∧ V.cell? ⟨w.heap.size + 2, 0, none⟩ = some (.bool false) ∧ V.frozen? ⟨w.heap.size + 2, 0, none⟩ = false)) := Lib.hid (fun V hb => by
    obtain ⟨h0, h1, h2, h3, h4, h5, h6, h7, h8, h9, h10, h11⟩ := hx
    exact ⟨old_cell h0 hb, old_cell h1 hb, old_cell h2 hb, old_cell h3 hb, old_cell h4 hb, old_cell h5 hb, old_cell h6 hb, old_cell h7 hb, old_cell h8 hb, old_cell h9 hb, old_cell h10 hb, (hb.frozen (p := ⟨w.heap.size + 2, 0, none⟩) (block_of_cell h10)).trans h11⟩)
  have HEnd : Hid (∀ V, Below W.heap.size W V → Below w.heap.size w (V.setCell ⟨w.heap.size + 2, 0, none⟩ (.bool true))) := Lib.hid (fun V h => (hb0.trans (h.mono hb0.size)).setCell (p := ⟨w.heap.size + 2, 0, none⟩) (by show w.heap.size ≤ w.heap.size + 2; omega) _)
  obtain ⟨x0, x1, x2, x3, x4, x5, x6, x7, x8, x9, x10, x11⟩ := hx
  have HS1 := Lib.hid s1
  have HWr := Lib.hid (fun W => writesB_nil W)
  have HP : Hid (∀ V, Calls Tryz.prog 23 #[.pointer none, .string ⟨k.toArray⟩, .agg #[.int .i64 r0, .int .i64 r1, .int .i64 r2, .int .i64 r3]] V fun e V2 => e = .returned (.int .i64 2) ∧ Below V.heap.size V V2) := Lib.hid (fun V => putB_nil k (r0, r1, r2, r3) V)
  have HD := Lib.hid (fun V => delB_nil k V)
  have HG : Hid (∀ V, Calls Tryz.prog 28 #[.pointer none, .string ⟨k.toArray⟩] V fun e V2 => e = .returned (.tuple #[.agg #[.int .i64 0, .int .i64 0, .int .i64 0, .int .i64 0], .int .i64 2]) ∧ Below V.heap.size V V2) := Lib.hid (fun V => getB_nil k V)
  have HFd := Lib.hid (fun V => findB_nil ac lo hi am V)
  have HNw := Lib.hid (fun V => newB_none V)
  have HLn := Lib.hid (fun V => lenB_nil V)
  have HAp := Lib.hid (fun V => applyB_nil V)
  have HDr := Lib.hid (fun V => drop_nil V)
  have q0 := fun x y w => eql_func_nil Tryz.underlying81 (.func 72) x y w
  have hq := Rw.eqlRow 0 0 0 0 0 0 0 0 true (by simp)
  obtain ⟨V2, hV2⟩ : ∃ V2, W.alloc (.cells #[.slice none 0 0] 103) = V2 := ⟨_, rfl⟩
  have HV2 : Hid (V2.cell? ⟨W.heap.size, 0, none⟩ = some (.slice none 0 0) ∧ V2.heap.size = W.heap.size + 1 ∧ Below W.heap.size W V2) := Lib.hid (by rw [← hV2]; exact ⟨by simp, by simp, al1 W _⟩)
  clear hb0 s1
  refine calls_marks Tryz.func9 rfl ?_
  simp only [Tryz.ntmps9, List.size_toArray, List.length_cons, List.length_nil, Nat.reduceAdd, Nat.reduceSub, Array.replicate_succ, Array.replicate_zero, List.push_toArray, List.append_toArray, List.nil_append, List.cons_append]
  refine wpIn_wide.2 ?_
  go_wp2_with (go_at_call 44; refine (HWr.out _).mono ?_; rintro e V3 ⟨rfl, hV3⟩; rw [hV2] at hV3; subst hV3)
  refine (wpIn_wide (n := 3)).1 ?_
  refine' wpIn_range_tells (by omega) (gf := 72) (lb := #[.pointer (some ⟨W.heap.size, 0, none⟩)]) rfl (enters_any Tryz.func72 (by kernel_rfl) rfl) (encs := encQ) (stops := True) (xs := ([] : List WQ)) (R := fun k => k = W.heap.size) (K0 := fun _ => False)
    (fun o1 o2 => ?seq) (fun x => rfl) (fun k hk => by rw [hk, HV2.out.2.1]; omega) (fun k hk => hk.elim)
    (Still3 V2) (fun _ _ _ _ => False) Still3.clos (fun _ _ _ _ _ _ h _ _ => h) (.inl trivial) ⟨Fr.refl _ _, fun _ h => h.elim⟩ _ ?assign ?body ?done ?stop
  case seq =>
    have hbo : Below V2.heap.size V2 ((V2.alloc o1).alloc o2) := (al1 V2 o1).trans ((al1 (V2.alloc o1) o2).mono (by simp))
    refine writes1_tells W.heap.size none 0 [] _ _ (by simp) (old_cell HV2.out.1 hbo) (Rd.nilSlice _ 2) rfl (fun h => absurd rfl h) (fun k hk => ?_)
    have := hbo.size
    rw [hk]
    have := HV2.out.2.1
    omega
  case assign =>
    intro l' x W2 K1 hK1
    simp only [encQ]
    gi_wp2
    exact hK1
  case body =>
    intro l' K pre x post W2 hx
    exact absurd hx (by simp)
  case stop =>
    intro D c K pre x post W2 _ h
    exact h.elim
  case done =>
    rintro D K W3 hI _ hKD hsD hDef
    have H3 := Lib.hid (And.intro (HV2.out.2.2.trans (hI.low.mono HV2.out.2.2.size)) (And.intro (Nat.le_trans (by rw [HV2.out.2.1]; exact Nat.le_succ _) hsD : W.heap.size ≤ D) hDef))
    have HX3 : Hid (∀ V, Below W3.heap.size W3 V → (V.cell? ⟨w.heap.size, 0, none⟩ = some (.int .i64 ask) ∧ V.cell? ⟨w.heap.size, 1, none⟩ = some (.string ⟨k.toArray⟩) ∧ V.cell? ⟨w.heap.size, 2, none⟩ = some (.int .i64 r0) ∧ V.cell? ⟨w.heap.size, 3, none⟩ = some (.int .i64 r1) ∧ V.cell? ⟨w.heap.size, 4, none⟩ = some (.int .i64 r2) ∧ V.cell? ⟨w.heap.size, 5, none⟩ = some (.int .i64 r3) ∧ V.cell? ⟨w.heap.size + 1, 0, none⟩ = some (.int .i64 ac) ∧ V.cell? ⟨w.heap.size + 1, 1, none⟩ = some (.int .i64 lo) ∧ V.cell? ⟨w.heap.size + 1, 2, none⟩ = some (.int .i64 hi) ∧ V.cell? ⟨w.heap.size + 1, 3, none⟩ = some (.int .i64 am) ∧ V.cell? ⟨w.heap.size + 2, 0, none⟩ = some (.bool false) ∧ V.frozen? ⟨w.heap.size + 2, 0, none⟩ = false)) := Lib.hid (fun V hb => HX.out V (H3.out.1.trans (hb.mono H3.out.1.size)))
    have H0 := Lib.hid (Own.nil W3)
    clear x0 x1 x2 x3 x4 x5 x6 x7 x8 x9 x10 x11
    obtain ⟨y0, y1, y2, y3, y4, y5, y6, y7, y8, y9, y10, y11⟩ := HX3.out _ (Below.refl _ _)
    clear hI hKD hsD hDef
    gi_wp2
    go_wp2_with (first
      | (go_at_call 38; refine (HDr.out _).mono ?_; rintro e Va ⟨rfl, rfl⟩)
      | (go_at_call 14; refine (HNw.out _).mono ?_; rintro e Va ⟨rfl, rfl⟩)
      | (go_at_call 28; refine (HG.out _).mono ?_; rintro e V6 ⟨rfl, hb⟩; have H6 := Lib.hid (own_newRow (H0.out.later hb) (0, 0, 0, 0) 41); obtain ⟨v0, v1, v2, v3, v4, v5, v6, v7, v8, v9, v10, v11⟩ := HX3.out _ H6.out.low; clear hb)
      | (go_at_call 18; refine (HFd.out _).mono ?_; rintro e V7 ⟨rfl, hb⟩; have H7 := Lib.hid (H6.out.later hb); obtain ⟨z0, z1, z2, z3, z4, z5, z6, z7, z8, z9, z10, z11⟩ := HX3.out _ H7.out.low; clear hb)
      | (go_at_call 23; refine (HP.out _).mono ?_; rintro e V8 ⟨rfl, hb⟩; have H8 := Lib.hid (H7.out.later hb); obtain ⟨u0, u1, u2, u3, u4, u5, u6, u7, u8, u9, u10, u11⟩ := HX3.out _ H8.out.low; clear hb)
      | (go_at_call 24; refine (HD.out _).mono ?_; rintro e V9 ⟨rfl, hb⟩; have H9 := Lib.hid (H8.out.later hb); obtain ⟨t0, t1, t2, t3, t4, t5, t6, t7, t8, t9, t10, t11⟩ := HX3.out _ H9.out.low; obtain ⟨pa0, pa1, pa2, pa3⟩ := own_rowM (p := V6.heap.size) (r := (0, 0, 0, 0)) H9.out (by simp); clear hb)
      | (go_at_call 17; refine (HLn.out _).mono ?_; rintro e Va ⟨rfl, rfl⟩)
      | (go_at_call 25; refine (HAp.out _).mono ?_; rintro e Va ⟨rfl, rfl⟩)
      | (go_at_call 12; refine (HA.out _).mono ?_; rintro e V12 ⟨rfl, hb⟩; have H12 := Lib.hid (H9.out.later hb); obtain ⟨q0, q1, q2, q3, q4, q5, q6, q7, q8, q9, q10, q11⟩ := HX3.out _ H12.out.low; clear hb))
    obtain ⟨hb3, hsD, hDef⟩ := H3.out
    have s1 := HS1.out
    have hne : D ≠ w.heap.size + 2 := by omega
    have hDs : D < W3.heap.size := (Array.getElem?_eq_some_iff.1 hDef).1
    refine leave_marks [D] _ (by simp) (fun E hE => ?_) (fun W' hf => ?_)
    · simp at hE; subst hE
      exact (Below.heap_setCell V12 ⟨w.heap.size + 2, 0, none⟩ (.bool true) E hne).trans ((H12.out.low.block E hDs).trans hDef)
    · have hc : W'.cell? ⟨w.heap.size + 2, 0, none⟩ = some (.bool true) := cell_fr hf (show (V12.setCell ⟨w.heap.size + 2, 0, none⟩ (.bool true)).cell? ⟨w.heap.size + 2, 0, none⟩ = some (.bool true) from World.cell?_setCell_same' _ _ _ (by rw [q10]; rfl)) (by simp; omega)
      have b4 := HEnd.out V12 (hb3.trans (H12.out.low.mono hb3.size))
      exact ⟨_, results_bool rfl _ W' (w.heap.size + 2) (.bool true) rfl hc, rfl, b4.trans (hf.below (B := w.heap.size) b4.size (fun k x e => by simp at e; subst e; omega))⟩
end Bf
end Go.Proofs.YtecnijnmgdfdhaaGreat
