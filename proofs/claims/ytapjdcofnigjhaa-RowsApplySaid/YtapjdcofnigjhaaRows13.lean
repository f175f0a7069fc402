/- The walk of RowsApply, joined. -/
import Derived.Test.YtapjdcofnigjhaaRows12
namespace Go.Proofs.Ytapjdcofnigjhaa
open Go.RowKit

set_option maxRecDepth 100000 in
set_option maxHeartbeats 2000000 in
theorem rowsApply_walk (k : List UInt8) (a0 a1 a2 a3 : Int) (had : Bool) (b0 b1 b2 b3 : Int) (has : Bool) (w : World) :
    Calls Try.prog 6 #[.string ⟨k.toArray⟩, turnV a0 a1 a2 a3 had b0 b1 b2 b3 has] w (Yes w) := by
  by_cases ok : okKey k = true
  · exact rowsApply_good k ok a0 a1 a2 a3 had b0 b1 b2 b3 has w
  have HA := Lib.hid (al1 w (turnO a0 a1 a2 a3 had b0 b1 b2 b3 has))
  have HT := Lib.hid (TurnAt.made w a0 a1 a2 a3 had b0 b1 b2 b3 has)
  have HPt := Lib.hid pointer_any
  have HC := Lib.hid (fun v1 v2 w => changes_bad k (by simpa using ok) v1 v2 w)
  have hk : k.length < 1 ∨ 16 < k.length := by unfold okKey at ok; simp at ok; omega
  clear ok
  by_cases h1 : k.length < 1
  all_goals
    first
      | (have h2 : 16 < k.length := by omega
         clear hk)
      | clear hk
    go_enter Try.func6, Try.ntmps6
    go_wp2
    generalize w.alloc (turnO a0 a1 a2 a3 had b0 b1 b2 b3 has) = W at *
    go_region_held3 (fun W => W.cell? ⟨w.heap.size, 4, none⟩ = some (.bool had) ∧ W.cell? ⟨w.heap.size, 9, none⟩ = some (.bool has))
      (first | exact ⟨HT.out.had, HT.out.has⟩)
      (first
        | (go_at_call 20; refine (HPt.out _ _ _ _).mono ?_; rintro e w1 ⟨rfl, rfl⟩)
        | (go_at_call 19; refine (HC.out _ _ _).mono ?_; rintro e w1 ⟨rfl, rfl⟩))
    go_wp2_with (go_at_call 18; refine (awake_any _).mono ?_; rintro e w4 ⟨rfl, hb⟩; have H4 := Lib.hid ((Below.refl W.heap.size W).drew.trans hb); clear hb)
    go_ret
    exact ⟨ret_bool (by first | (simp; omega) | simp [*]), HA.out.trans (H4.out.mono HA.out.size)⟩
end Go.Proofs.Ytapjdcofnigjhaa
