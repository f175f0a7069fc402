/- '==' of entries, of changes, of rows. -/
import Derived.Test.YtapjdcofnigjhaaOk
import Derived.Laws.StructEq
import Derived.Laws.Pointers
namespace Go.Proofs.Ytapjdcofnigjhaa
open Go.RowKit

theorem al1 (w : World) (o : Obj) : Below w.heap.size w (w.alloc o) := (Below.refl _ _).alloc (Nat.le_refl _) _
theorem eqEntry (d : Nat) (v : Int) (s : ByteArray) (x : Int) (t : ByteArray) (w : World) : (Op.equalIn (d + 2) 40 (.agg #[.int .i64 v, .string s]) (.agg #[.int .i64 x, .string t])).run Try.prog w = .ok (v == x && s.toList == t.toList) w := by
  have u3 := Try.underlying3
  have a3 := Try.isAgg3
  have z3 := Try.sizeOf3
  have u9 := Try.underlying9
  have a9 := Try.isAgg9
  have z9 := Try.sizeOf9
  have hS : Try.prog.underlying 40 = some (.struct (Try.prog.fieldsOf 40)) := by kernel_rfl
  have hp : Try.prog.stoodInHeld 40 = false := by kernel_rfl
  rw [run_equalIn_agg w (d + 1) 40 _ _ hS hp]
  simp only [Program.fieldsOf, Try.underlying40]
  go_simp
  by_cases h1 : v = x <;> by_cases h2 : s.toList = t.toList <;> simp [h1, h2]
theorem eqChg (d : Nat) (i : Int) (v : Int) (s : ByteArray) (b : Bool) (j : Int) (x : Int) (t : ByteArray) (c : Bool) (w : World) : (Op.equalIn (d + 3) 42 (.agg #[.int .i64 i, .int .i64 v, .string s, .bool b]) (.agg #[.int .i64 j, .int .i64 x, .string t, .bool c])).run Try.prog w = .ok (i == j && (v == x && s.toList == t.toList) && b == c) w := by
  have u3 := Try.underlying3
  have a3 := Try.isAgg3
  have z3 := Try.sizeOf3
  have u4 := Try.underlying4
  have a4 := Try.isAgg4
  have z4 := Try.sizeOf4
  have a5 := Try.isAgg40
  have z5 := Try.sizeOf40
  have he := fun w => eqEntry d v s x t w
  have hS : Try.prog.underlying 42 = some (.struct (Try.prog.fieldsOf 42)) := by kernel_rfl
  have hp : Try.prog.stoodInHeld 42 = false := by kernel_rfl
  rw [run_equalIn_agg w (d + 2) 42 _ _ hS hp]
  simp only [Program.fieldsOf, Try.underlying42]
  go_simp
  by_cases h1 : i = j <;> by_cases h2 : v = x <;> by_cases h3 : s.toList = t.toList <;> by_cases h4 : b = c <;> simp [h1, h2, h3, h4]
theorem eqRow (d : Nat) (a0 a1 a2 a3 b0 b1 b2 b3 : Int) (w : World) : (Op.equalIn (d + 2) 23 (.agg #[.int .i64 a0, .int .i64 a1, .int .i64 a2, .int .i64 a3]) (.agg #[.int .i64 b0, .int .i64 b1, .int .i64 b2, .int .i64 b3])).run Try.prog w = .ok (a0 == b0 && (a1 == b1 && (a2 == b2 && a3 == b3))) w := by
  have u3 := Try.underlying3
  have g3 := Try.isAgg3
  have z3 := Try.sizeOf3
  have u23 := Try.underlying23
  have hr : List.range' 0 4 = [0, 1, 2, 3] := rfl
  unfold Op.equalIn
  go_simp
  by_cases h1 : a0 = b0 <;> by_cases h2 : a1 = b1 <;> by_cases h3 : a2 = b2 <;> by_cases h4 : a3 = b3 <;> simp [h1, h2, h3, h4]
theorem guardRow : Try.prog.eqGuardType Try.prog.depth 23 = false := by kernel_rfl
theorem guardChg : Try.prog.eqGuardType Try.prog.depth 42 = false := by kernel_rfl
theorem guardEntry : Try.prog.eqGuardType Try.prog.depth 40 = false := by kernel_rfl
abbrev rowV (a0 a1 a2 a3 : Int) : Value := .agg #[.int .i64 a0, .int .i64 a1, .int .i64 a2, .int .i64 a3]
abbrev chgVal (i : Int) (v : Int) (k : List UInt8) (b : Bool) : Value := .agg #[.int .i64 i, .int .i64 v, .string ⟨k.toArray⟩, .bool b]
theorem eqlRow (a0 a1 a2 a3 b0 b1 b2 b3 : Int) (r : Bool) (h : (a0 == b0 && (a1 == b1 && (a2 == b2 && a3 == b3))) = r) (w : World) : (binOp .eql 23 (rowV a0 a1 a2 a3) (rowV b0 b1 b2 b3)).run Try.prog w = .ok (.bool r) w := by
  rw [run_eql_struct, eqRow, h]; rfl
theorem neqRow (a0 a1 a2 a3 b0 b1 b2 b3 : Int) (r : Bool) (h : (a0 == b0 && (a1 == b1 && (a2 == b2 && a3 == b3))) = r) (w : World) : (binOp .neq 23 (rowV a0 a1 a2 a3) (rowV b0 b1 b2 b3)).run Try.prog w = .ok (.bool (!r)) w := by
  rw [run_neq_struct, eqRow, h]; rfl
theorem eqlChg (i v : Int) (s : List UInt8) (b : Bool) (j x : Int) (t : List UInt8) (c : Bool) (r : Bool) (h : (i == j && (v == x && s == t) && b == c) = r) (w : World) : (binOp .eql 42 (chgVal i v s b) (chgVal j x t c)).run Try.prog w = .ok (.bool r) w := by
  rw [run_eql_struct, eqChg, list_of, list_of, h]; rfl
theorem neqChg (i v : Int) (s : List UInt8) (b : Bool) (j x : Int) (t : List UInt8) (c : Bool) (r : Bool) (h : (i == j && (v == x && s == t) && b == c) = r) (w : World) : (binOp .neq 42 (chgVal i v s b) (chgVal j x t c)).run Try.prog w = .ok (.bool (!r)) w := by
  rw [run_neq_struct, eqChg, list_of, list_of, h]; rfl
theorem eqlEnt (v : Int) (s : List UInt8) (x : Int) (t : List UInt8) (r : Bool) (h : (v == x && s == t) = r) (w : World) : (binOp .eql 40 (.agg #[.int .i64 v, .string ⟨s.toArray⟩]) (.agg #[.int .i64 x, .string ⟨t.toArray⟩])).run Try.prog w = .ok (.bool r) w := by
  rw [run_eql_struct, eqEntry, list_of, list_of, h]; rfl
theorem neqEnt (v : Int) (s : List UInt8) (x : Int) (t : List UInt8) (r : Bool) (h : (v == x && s == t) = r) (w : World) : (binOp .neq 40 (.agg #[.int .i64 v, .string ⟨s.toArray⟩]) (.agg #[.int .i64 x, .string ⟨t.toArray⟩])).run Try.prog w = .ok (.bool (!r)) w := by
  rw [run_neq_struct, eqEntry, list_of, list_of, h]; rfl
end Go.Proofs.Ytapjdcofnigjhaa
