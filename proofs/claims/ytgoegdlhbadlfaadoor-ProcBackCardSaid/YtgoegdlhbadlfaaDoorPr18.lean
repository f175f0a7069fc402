/- The law's Same, where both hold the same ops. -/
import Derived.Test.YtgoegdlhbadlfaaDoorPr8
import Derived.Deep.QuietTactic
import Derived.BigQuiet
namespace Go.Proofs.YtgoegdlhbadlfaaDoor
namespace Pc
open Go.RowKit
abbrev opW (d a b c n : Int) : Value := .agg #[.int .i64 d, .int .i64 a, .int .i64 b, .int .i64 c, .int .i64 n]
theorem eqOp (k : Nat) (d a b c n : Int) (w : World) : (Op.equalIn (k + 2) 28 (opW d a b c n) (opW d a b c n)).run Tryd.prog w = .ok true w := by
  have u3 := Tryd.underlying3
  have a3 := Tryd.isAgg3
  have z3 := Tryd.sizeOf3
  have hS : Tryd.prog.underlying 28 = some (.struct (Tryd.prog.fieldsOf 28)) := by kernel_rfl
  have hp : Tryd.prog.stoodInHeld 28 = false := by kernel_rfl
  rw [run_equalIn_agg w (k + 1) 28 _ _ hS hp]
  simp only [Program.fieldsOf, Tryd.underlying28]
  go_simp
theorem guardOp : Tryd.prog.eqGuardType Tryd.prog.depth 28 = false := by kernel_rfl
theorem neqOp (d a b c n : Int) (w : World) : (binOp .neq 28 (opW d a b c n) (opW d a b c n)).run Tryd.prog w = .ok (.bool false) w := by
  rw [run_neq_struct, eqOp]; rfl
abbrev Yes (w : World) (e : Ending) (w' : World) : Prop := e = .returned (.bool true) ∧ Below w.heap.size w w'
theorem op_cells {w : World} {a : Option Addr} {n c : Nat} {l : List OpP} (h : Rd w 5 a n c (opsV l)) {j : Nat} {x : OpP} (hj : l[j]? = some x) :
    ∃ b o, a = some ⟨b, o, none⟩ ∧ w.cell? ⟨b, o + j * 5, none⟩ = some (.int .i64 x.1) ∧ w.cell? ⟨b, o + j * 5 + 1, none⟩ = some (.int .i64 x.2.1) ∧ w.cell? ⟨b, o + j * 5 + 2, none⟩ = some (.int .i64 x.2.2.1) ∧ w.cell? ⟨b, o + j * 5 + 3, none⟩ = some (.int .i64 x.2.2.2.1) ∧ w.cell? ⟨b, o + j * 5 + 4, none⟩ = some (.int .i64 x.2.2.2.2) := by
  obtain ⟨b, o, h1, h2⟩ := op_at h hj
  exact ⟨b, o, h1, h2 0 _ (by omega) rfl, h2 1 _ (by omega) rfl, h2 2 _ (by omega) rfl, h2 3 _ (by omega) rfl, h2 4 _ (by omega) rfl⟩
theorem lawSame_true (a : Option Addr) (c : Nat) (a2 : Option Addr) (c2 : Nat) (L : List OpP) (hn : L.length ≤ 1000000) (w : World) (h : Rd w 5 a L.length c (opsV L)) (h2 : Rd w 5 a2 L.length c2 (opsV L)) :
    Calls Tryd.prog 9 #[.slice a L.length c, .slice a2 L.length c2] w (Yes w) := by
  have hgd := guardOp
  have HR := Lib.hid (And.intro h h2)
  clear h h2
  go_enter Tryd.func9, Tryd.ntmps9
  go_wp2
  go_loopw [5] (fun i wr => ∃ (k : Nat), k ≤ L.length ∧ i = .int .i64 k ∧ Hid (Below w.heap.size w wr)) (fun i _ => L.length - (intP i).toNat)
  case atStart => exact ⟨0, by omega, rfl, Lib.hid (Below.refl _ _)⟩
  case round =>
    obtain ⟨k, hk, rfl, HB⟩ := hrel
    obtain ⟨wo, rfl⟩ : ∃ wo : World, wo = wr := ⟨_, rfl⟩
    by_cases hlt : k < L.length
    · obtain ⟨x, hx⟩ : ∃ x, L[k]? = some x := ⟨_, List.getElem?_eq_getElem hlt⟩
      obtain ⟨b, o, rfl, x0, x1, x2, x3, x4⟩ := op_cells (HR.out.1.later HB.out) hx
      obtain ⟨b2, o2, rfl, y0, y1, y2, y3, y4⟩ := op_cells (HR.out.2.later HB.out) hx
      have k0 : (0 : Int) ≤ (k : Int) := by omega
      have k1 : (k : Int) < (L.length : Int) := by omega
      have heq := neqOp x.1 x.2.1 x.2.2.1 x.2.2.2.1 x.2.2.2.2
      clear hx
      go_wp2
      go_quiet (fail)
      go_wp2
      go_roundw
      case rel => exact ⟨k + 1, by omega, by go_num, Lib.hid (HB.out.trans ⟨rfl, rfl, rfl, Nat.le_refl _, fun _ _ => rfl⟩)⟩
      case measure => simp [intP]; omega
    · obtain rfl : k = L.length := by omega
      go_wp2
      go_ret
      exact ⟨rfl, HB.out⟩
end Pc
end Go.Proofs.YtgoegdlhbadlfaaDoor
