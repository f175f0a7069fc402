/- Package proc: holds, span, fields. -/
import Derived.Test.YtgoegdlhbadlfaaDoorPr1
import Derived.Test.YtgoegdlhbadlfaaDoorProg
import Derived.Test.YtgoegdlhbadlfaaDoorKit
import Derived.Handy
import Derived.Lib.Strings
import Derived.Deep.RegionHeld3
import Derived.Deep.QuietTactic
import Derived.BigQuiet
namespace Go.Proofs.YtgoegdlhbadlfaaDoor
namespace Pc
open Go.RowKit
theorem old_cellP {w W : World} {x : Addr} {u : Value} (h : w.cell? x = some u) (hb : Below w.heap.size w W) : W.cell? x = some u := old_cell h hb
theorem fields_any (P : Nat) (w : World) : Calls Tryd.prog 12 #[.pointer (some ⟨P, 0, none⟩)] w fun e V => e = .returned (.func (.func 22) #[] #[.pointer (some ⟨w.heap.size, 0, none⟩)]) ∧ w.alloc (.cells #[.pointer (some ⟨P, 0, none⟩)] 44) = V := by
  go_enter Tryd.func12, Tryd.ntmps12
  go_wp2
  go_ret
  exact ⟨rfl, rfl⟩
theorem fieldC_any (f P Q : Nat) (hf : f < 4) (w : World) (h : w.cell? ⟨Q, 0, none⟩ = some (.pointer (some ⟨P, 0, none⟩))) :
    Calls Tryd.prog 22 #[.int .i32 (letter f).toNat, .pointer (some ⟨Q, 0, none⟩)] w fun e V => e = .returned (.pointer (some ⟨P, f + 1, none⟩)) ∧ w = V := by
  have hc : f = 0 ∨ f = 1 ∨ f = 2 ∨ f = 3 := by omega
  rcases hc with rfl | rfl | rfl | rfl
  all_goals
    simp only [letter]
    go_enter Tryd.func22, Tryd.ntmps22
    go_wp2
    go_ret
    exact ⟨rfl, rfl⟩
theorem span_any (d : Int) (f : Nat) (hf : f < 4) (w : World) :
    Calls Tryd.prog 32 #[.int .i64 d, .int .i32 (letter f).toNat] w fun e V => e = .returned (.tuple #[.int .i64 (loP d f), .int .i64 (hiP d f)]) ∧ w = V := by
  have hc : f = 0 ∨ f = 1 ∨ f = 2 ∨ f = 3 := by omega
  rcases hc with rfl | rfl | rfl | rfl
  · by_cases h9 : d = 9
    · have e1 : loP d 0 = 0 := by simp [loP]
      have e2 : hiP d 0 = 4 := by simp [hiP, h9]
      rw [e1, e2]
      subst h9
      clear e1 e2
      simp only [letter]
      go_enter Tryd.func32, Tryd.ntmps32
      go_wp2
      go_ret2
      exact ⟨rfl, rfl⟩
    · have e1 : loP d 0 = 0 := by simp [loP]
      have e2 : hiP d 0 = 7 := by simp [hiP, h9]
      rw [e1, e2]
      clear e1 e2
      simp only [letter]
      go_enter Tryd.func32, Tryd.ntmps32
      go_wp2
      go_ret2
      exact ⟨rfl, rfl⟩
  · have e1 : loP d 1 = 0 := by simp [loP]
    have e2 : hiP d 1 = 7 := by simp [hiP]
    rw [e1, e2]
    clear e1 e2
    simp only [letter]
    go_enter Tryd.func32, Tryd.ntmps32
    go_wp2
    go_ret2
    exact ⟨rfl, rfl⟩
  · by_cases h1 : d = 1
    · have e1 : loP d 2 = -1099511627776 := by simp [loP, h1, big]
      have e2 : hiP d 2 = 1099511627776 := by simp [hiP, h1, big]
      rw [e1, e2]
      subst h1
      clear e1 e2
      simp only [letter]
      go_enter Tryd.func32, Tryd.ntmps32
      go_wp2
      go_ret2
      exact ⟨rfl, rfl⟩
    · have d1 : decide (d = 1) = false := by simpa using h1
      by_cases h14 : d = 14
      · have e1 : loP d 2 = 0 := by simp [loP, h1]
        have e2 : hiP d 2 = 16 := by simp [hiP, h14]
        rw [e1, e2]
        subst h14
        clear e1 e2
        simp only [letter]
        go_enter Tryd.func32, Tryd.ntmps32
        go_wp2
        go_ret2
        exact ⟨rfl, rfl⟩
      · have d2 : decide (d = 14) = false := by simpa using h14
        have e1 : loP d 2 = 0 := by simp [loP, h1]
        have e2 : hiP d 2 = 3 := by simp [hiP, h1, h14]
        rw [e1, e2]
        clear e1 e2
        simp only [letter]
        go_enter Tryd.func32, Tryd.ntmps32
        go_wp2
        go_ret2
        exact ⟨rfl, rfl⟩
  · by_cases h12 : d = 12
    · have e1 : loP d 3 = 0 := by simp [loP]
      have e2 : hiP d 3 = 1099511627776 := by simp [hiP, h12, big]
      rw [e1, e2]
      subst h12
      clear e1 e2
      simp only [letter]
      go_enter Tryd.func32, Tryd.ntmps32
      go_wp2
      go_ret2
      exact ⟨rfl, rfl⟩
    · have e1 : loP d 3 = 0 := by simp [loP]
      have e2 : hiP d 3 = 64 := by simp [hiP, h12]
      rw [e1, e2]
      clear e1 e2
      simp only [letter]
      go_enter Tryd.func32, Tryd.ntmps32
      go_wp2
      go_ret2
      exact ⟨rfl, rfl⟩
theorem holds_any (x : OpP) (w : World) : Calls Tryd.prog 33 #[.agg (opV x).toArray] w fun e V => e = .returned (.bool (holdsP x)) ∧ Below w.heap.size w V := by
  obtain ⟨d, a, b, c, n⟩ := x
  show Calls _ _ #[.agg #[.int .i64 d, .int .i64 a, .int .i64 b, .int .i64 c, .int .i64 n]] w _
  by_cases h13 : d = 13
  · have e1 : holdsP (d, a, b, c, n) = true := by simp [holdsP, h13]
    rw [e1]
    subst h13
    clear e1
    go_enter Tryd.func33, Tryd.ntmps33
    go_wp2
    go_ret
    exact ⟨rfl, (Below.refl _ _).alloc (Nat.le_refl _) _⟩
  · have d1 : decide (d = 13) = false := by simpa using h13
    by_cases h14 : d = 14
    · have e1 : holdsP (d, a, b, c, n) = true := by simp [holdsP, h14]
      rw [e1]
      subst h14
      clear e1
      go_enter Tryd.func33, Tryd.ntmps33
      go_wp2
      go_ret
      exact ⟨rfl, (Below.refl _ _).alloc (Nat.le_refl _) _⟩
    · have d2 : decide (d = 14) = false := by simpa using h14
      have e1 : holdsP (d, a, b, c, n) = false := by simp [holdsP, h13, h14]
      rw [e1]
      clear e1
      go_enter Tryd.func33, Tryd.ntmps33
      go_wp2
      go_ret
      refine ⟨?_, (Below.refl _ _).alloc (Nat.le_refl _) _⟩
      show Ending.returned (.bool (d == 13 || d == 14)) = _
      rw [beq_eq_false_iff_ne.2 h13, beq_eq_false_iff_ne.2 h14]; rfl
end Pc
end Go.Proofs.YtgoegdlhbadlfaaDoor
