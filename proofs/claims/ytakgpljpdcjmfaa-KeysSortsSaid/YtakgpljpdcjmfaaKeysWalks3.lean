/- The walks of package keys, third part: Compare, the checker's and the package's. -/
import Derived.Test.YtakgpljpdcjmfaaKeysWalks2
import Derived.Laws.StructEq
namespace Go.Proofs.Ytakgpljpdcjmfaa
open Go.RowKit

/-- '==' of two entries. -/
@[go_sem] theorem eqEntry (v : Int) (s : ByteArray) (x : Int) (t : ByteArray) (w : World) : (Op.equalIn 10000 23 (.agg #[.int .i64 v, .string s]) (.agg #[.int .i64 x, .string t])).run Try.prog w = .ok (v == x && s.toList == t.toList) w := by
  have u3 := Try.underlying3
  have a3 := Try.isAgg3
  have z3 := Try.sizeOf3
  have u9 := Try.underlying9
  have a9 := Try.isAgg9
  have z9 := Try.sizeOf9
  have hS : Try.prog.underlying 23 = some (.struct (Try.prog.fieldsOf 23)) := by kernel_rfl
  have hp : Try.prog.stoodInHeld 23 = false := by kernel_rfl
  rw [show (10000 : Nat) = 9999 + 1 from rfl, run_equalIn_agg w 9999 23 _ _ hS hp]
  simp only [Program.fieldsOf, Try.underlying23]
  go_simp
  by_cases h1 : v = x <;> by_cases h2 : s.toList = t.toList <;> simp [h1, h2]
theorem guardEntry : Try.prog.eqGuardType Try.prog.depth 23 = false := by kernel_rfl
theorem eqE_run (v : Int) (s : List UInt8) (x : Int) (t : List UInt8) (b : Bool) (h : (v == x && s == t) = b) (w : World) : (binOp .eql 23 (.agg #[.int .i64 v, .string ⟨s.toArray⟩]) (.agg #[.int .i64 x, .string ⟨t.toArray⟩])).run Try.prog w = .ok (.bool b) w := by
  rw [run_eql_struct, eqEntry, list_of, list_of, h]; rfl
theorem neE_run (v : Int) (s : List UInt8) (x : Int) (t : List UInt8) (b : Bool) (h : (v == x && s == t) = b) (w : World) : (binOp .neq 23 (.agg #[.int .i64 v, .string ⟨s.toArray⟩]) (.agg #[.int .i64 x, .string ⟨t.toArray⟩])).run Try.prog w = .ok (.bool (!b)) w := by
  rw [run_neq_struct, eqEntry, list_of, list_of, h]; rfl

theorem fresh2 (w : World) (a b : Value) (t : TypeId) (fr : Nat × Nat) (i : Nat) (u : Value) (h : #[a, b][i]? = some u) : (w.alloc (.cells #[a, b] t fr)).drew.cell? ⟨w.heap.size, i, none⟩ = some u := by
  have := cell_of_row (w.alloc (.cells #[a, b] t fr)) w.heap.size i _ t fr (heap_alloc_new w _)
  exact this.trans h
theorem al1 (w : World) (o : Obj) : Below w.heap.size w (w.alloc o) := (Below.refl _ _).alloc (Nat.le_refl _) _
/-- An entry, as a value. -/
abbrev entV (v : Int) (s : List UInt8) : Value := .agg #[.int .i64 v, .string ⟨s.toArray⟩]

theorem cmp_eq (v : Int) (s : List UInt8) (x : Int) (t : List UInt8) : (if cmpI v x = 0 then Ky.cmpS s t else cmpI v x) = Ky.cmpE v s x t := by
  unfold cmpI Ky.cmpE
  by_cases h1 : v < x
  · simp [h1]
  · by_cases h2 : x < v <;> simp [h1, h2]

theorem first_of (v : Int) (s : List UInt8) (x : Int) (t : List UInt8) (g : Nat) (w : World) (h0 : w.cell? ⟨g, 0, none⟩ = some (.int .i64 (cmpI v x))) (h1 : w.cell? ⟨g, 1, none⟩ = some (.int .i64 (Ky.cmpS s t))) :
    Calls Try.prog 22 #[.slice (some ⟨g, 0, none⟩) 2 2] w fun e w' => e = .returned (.int .i64 (Ky.cmpE v s x t)) ∧ w = w' := by
  rw [← cmp_eq]
  exact first_two _ _ g w h0 h1
set_option maxHeartbeats 1000000 in
theorem compare_any (v : Int) (s : List UInt8) (x : Int) (t : List UInt8) (w : World) :
    Calls Try.prog 18 #[entV v s, entV x t] w fun e w' => e = .returned (.int .i64 (Ky.cmpE v s x t)) ∧ Below w.heap.size w w' := by
  have hg := guardEntry
  by_cases h : (v == x && s == t) = true
  · have hz : Ky.cmpE v s x t = 0 := by
      rw [Ky.cmpE_zero]; simpa using h
    have heq := eqE_run v s x t true h
    have HZ := Lib.hid hz
    clear hz h
    go_enter Try.func18, Try.ntmps18
    go_wp2
    rw [HZ.out]
    go_ret
    exact ⟨rfl, ((Below.refl _ _).alloc (Nat.le_refl _) _).alloc (by simp) _⟩
  · have h' : (v == x && s == t) = false := by simpa using h
    have heq := eqE_run v s x t false h'
    clear h h'
    go_enter Try.func18, Try.ntmps18
    go_wp2
    have hb0 := ((Below.refl w.heap.size w).alloc (Nat.le_refl _) (.cells #[.int .i64 v, .string ⟨s.toArray⟩] 23)).alloc (by simp) (.cells #[.int .i64 x, .string ⟨t.toArray⟩] 23)
    have c0 : ((w.alloc (.cells #[.int .i64 v, .string ⟨s.toArray⟩] 23)).alloc (.cells #[.int .i64 x, .string ⟨t.toArray⟩] 23)).cell? ⟨w.heap.size, 0, none⟩ = some (.int .i64 v) := by simp
    have c1 : ((w.alloc (.cells #[.int .i64 v, .string ⟨s.toArray⟩] 23)).alloc (.cells #[.int .i64 x, .string ⟨t.toArray⟩] 23)).cell? ⟨w.heap.size, 1, none⟩ = some (.string ⟨s.toArray⟩) := by simp
    have c2 : ((w.alloc (.cells #[.int .i64 v, .string ⟨s.toArray⟩] 23)).alloc (.cells #[.int .i64 x, .string ⟨t.toArray⟩] 23)).cell? ⟨w.heap.size + 1, 0, none⟩ = some (.int .i64 x) := by simp
    have c3 : ((w.alloc (.cells #[.int .i64 v, .string ⟨s.toArray⟩] 23)).alloc (.cells #[.int .i64 x, .string ⟨t.toArray⟩] 23)).cell? ⟨w.heap.size + 1, 1, none⟩ = some (.string ⟨t.toArray⟩) := by simp
    have HB0 := Lib.hid hb0
    have C0 := Lib.hid c0
    have C1 := Lib.hid c1
    have C2 := Lib.hid c2
    have C3 := Lib.hid c3
    clear hb0 c0 c1 c2 c3 heq
    generalize (w.alloc (.cells #[.int .i64 v, .string ⟨s.toArray⟩] 23)).alloc (.cells #[.int .i64 x, .string ⟨t.toArray⟩] 23) = W0 at *
    go_region_held3 (fun W => (W.cell? ⟨w.heap.size, 0, none⟩ = some (.int .i64 v) ∧ W.cell? ⟨w.heap.size, 1, none⟩ = some (.string ⟨s.toArray⟩)) ∧ W.cell? ⟨w.heap.size + 1, 0, none⟩ = some (.int .i64 x) ∧ W.cell? ⟨w.heap.size + 1, 1, none⟩ = some (.string ⟨t.toArray⟩))
      (first | exact ⟨⟨C0.out, C1.out⟩, C2.out, C3.out⟩ | exact ⟨⟨old_cell C0.out (al1 _ _), old_cell C1.out (al1 _ _)⟩, old_cell C2.out (al1 _ _), old_cell C3.out (al1 _ _)⟩ | exact ⟨⟨old_cell C0.out (al1 _ _).drew, old_cell C1.out (al1 _ _).drew⟩, old_cell C2.out (al1 _ _).drew, old_cell C3.out (al1 _ _).drew⟩)
      (first
        | (go_at_call 23; refine (cmpInt v x _).mono ?_; rintro e w1 ⟨rfl, rfl⟩)
        | (go_at_call 24; refine (cmpStr s t _).mono ?_; rintro e w1 ⟨rfl, rfl⟩)
        | (go_at_call 22; refine (first_of v s x t W0.heap.size _ (fresh2 _ _ _ _ _ 0 (.int .i64 (cmpI v x)) rfl) (fresh2 _ _ _ _ _ 1 (.int .i64 (Ky.cmpS s t)) rfl)).mono ?_; rintro e w1 ⟨rfl, rfl⟩))
    go_wp2
    go_ret
    exact ⟨rfl, HB0.out.trans ((al1 _ _).drew.mono HB0.out.size)⟩
end Go.Proofs.Ytakgpljpdcjmfaa
