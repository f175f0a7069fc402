/- The walk of RowsTwice, joined. -/
import Derived.Test.YtapjdcofnigjhaaRows9
namespace Go.Proofs.Ytapjdcofnigjhaa
open Go.RowKit

set_option maxRecDepth 100000 in
set_option maxHeartbeats 4000000 in
theorem rowsTwice_bad (k : List UInt8) (ok : okKey k = false) (a0 a1 a2 a3 : Int) (had : Bool) (b0 b1 b2 b3 : Int) (has : Bool) (w : World) :
    Calls Try.prog 5 #[.string ⟨k.toArray⟩, turnV a0 a1 a2 a3 had b0 b1 b2 b3 has] w (Yes w) := by
  have HA := Lib.hid (al1 w (turnO a0 a1 a2 a3 had b0 b1 b2 b3 has))
  have HT := Lib.hid (TurnAt.made w a0 a1 a2 a3 had b0 b1 b2 b3 has)
  have HPt := Lib.hid pointer_any
  have HC := Lib.hid (fun v1 v2 w => changes_bad k ok v1 v2 w)
  clear ok
  go_enter Try.func5, Try.ntmps5
  go_wp2
  generalize w.alloc (turnO a0 a1 a2 a3 had b0 b1 b2 b3 has) = W at *
  go_region_held3 (fun W => W.cell? ⟨w.heap.size, 4, none⟩ = some (.bool had) ∧ W.cell? ⟨w.heap.size, 9, none⟩ = some (.bool has))
    (first | exact ⟨HT.out.had, HT.out.has⟩)
    (first
      | (go_at_call 20; refine (HPt.out _ _ _ _).mono ?_; rintro e w1 ⟨rfl, rfl⟩)
      | (go_at_call 19; refine (HC.out _ _ _).mono ?_; rintro e w1 ⟨rfl, rfl⟩))
  go_wp2
  go_region_held3 (fun W => W.cell? ⟨w.heap.size, 4, none⟩ = some (.bool had) ∧ W.cell? ⟨w.heap.size, 9, none⟩ = some (.bool has))
    (first | exact ⟨HT.out.had, HT.out.has⟩)
    (first
      | (go_at_call 20; refine (HPt.out _ _ _ _).mono ?_; rintro e w1 ⟨rfl, rfl⟩)
      | (go_at_call 19; refine (HC.out _ _ _).mono ?_; rintro e w1 ⟨rfl, rfl⟩))
  go_wp2
  go_region_held3 (fun W => W.cell? ⟨w.heap.size, 4, none⟩ = some (.bool had) ∧ W.cell? ⟨w.heap.size, 9, none⟩ = some (.bool has))
    (first | exact ⟨HT.out.had, HT.out.has⟩)
    (first
      | (go_at_call 20; refine (HPt.out _ _ _ _).mono ?_; rintro e w1 ⟨rfl, rfl⟩)
      | (go_at_call 19; refine (HC.out _ _ _).mono ?_; rintro e w1 ⟨rfl, rfl⟩))
  go_wp2_with (go_at_call 18; refine (awake_any _).mono ?_; rintro e w4 ⟨rfl, hb⟩; have H4 := Lib.hid ((Below.refl W.heap.size W).drew.drew.drew.trans hb); clear hb)
  go_ret
  exact ⟨rfl, HA.out.trans (H4.out.mono HA.out.size)⟩
theorem rowsTwice_walk (k : List UInt8) (a0 a1 a2 a3 : Int) (had : Bool) (b0 b1 b2 b3 : Int) (has : Bool) (w : World) :
    Calls Try.prog 5 #[.string ⟨k.toArray⟩, turnV a0 a1 a2 a3 had b0 b1 b2 b3 has] w (Yes w) := by
  by_cases ok : okKey k = true
  · cases had
    · exact rowsTwice_f k ok a0 a1 a2 a3 b0 b1 b2 b3 has w
    · exact rowsTwice_t k ok a0 a1 a2 a3 b0 b1 b2 b3 has w
  · exact rowsTwice_bad k (by simpa using ok) a0 a1 a2 a3 had b0 b1 b2 b3 has w
end Go.Proofs.Ytapjdcofnigjhaa
