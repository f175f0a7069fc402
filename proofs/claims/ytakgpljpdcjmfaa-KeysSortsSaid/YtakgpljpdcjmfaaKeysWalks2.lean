/- The walks of package keys, second part: orders. -/
import Derived.Test.YtakgpljpdcjmfaaKeysWalks
namespace Go.Proofs.Ytakgpljpdcjmfaa
open Go.RowKit

theorem nanInt (x : Int) (w : World) : Calls Try.prog 27 #[.int .i64 x] w fun e w' => e = .returned (.bool false) ∧ w = w' := by
  go_enter Try.func27, Try.ntmps27
  go_wp2
  go_ret
  exact ⟨rfl, rfl⟩
theorem nanStr (x : List UInt8) (w : World) : Calls Try.prog 28 #[.string ⟨x.toArray⟩] w fun e w' => e = .returned (.bool false) ∧ w = w' := by
  go_enter Try.func28, Try.ntmps28
  go_wp2
  go_ret
  exact ⟨rfl, rfl⟩
/-- cmp.Compare of numbers. -/
def cmpI (x y : Int) : Int := if x < y then -1 else if y < x then 1 else 0
theorem cmpInt (x y : Int) (w : World) : Calls Try.prog 23 #[.int .i64 x, .int .i64 y] w fun e w' => e = .returned (.int .i64 (cmpI x y)) ∧ w = w' := by
  rcases Int.lt_trichotomy x y with h | h | h
  · have hc : cmpI x y = -1 := by unfold cmpI; rw [if_pos h]
    rw [hc]
    clear hc
    go_enter Try.func23, Try.ntmps23
    go_wp2_with (go_at_call 27; refine (nanInt _ _).mono ?_; rintro e w' ⟨rfl, rfl⟩)
    go_ret
    exact ⟨rfl, rfl⟩
  · subst h
    have hc : cmpI x x = 0 := by unfold cmpI; simp
    rw [hc]
    clear hc
    go_enter Try.func23, Try.ntmps23
    go_wp2_with (go_at_call 27; refine (nanInt _ _).mono ?_; rintro e w' ⟨rfl, rfl⟩)
    go_ret
    exact ⟨rfl, rfl⟩
  · have hc : cmpI x y = 1 := by unfold cmpI; rw [if_neg (by omega), if_pos h]
    have hn : ¬ x < y := by omega
    rw [hc]
    clear hc
    go_enter Try.func23, Try.ntmps23
    go_wp2_with (go_at_call 27; refine (nanInt _ _).mono ?_; rintro e w' ⟨rfl, rfl⟩)
    go_ret
    exact ⟨rfl, rfl⟩

theorem cmpStr (x y : List UInt8) (w : World) : Calls Try.prog 24 #[.string ⟨x.toArray⟩, .string ⟨y.toArray⟩] w fun e w' => e = .returned (.int .i64 (Ky.cmpS x y)) ∧ w = w' := by
  have hg := str_gtr 9 x y
  have hl := str_lss 9 x y
  rcases Ky.less_trich x y with h | h | h
  · subst h
    rw [Ky.cmpS_self]
    have h := Ky.less_self x
    go_enter Try.func24, Try.ntmps24
    go_wp2_with (go_at_call 28; refine (nanStr _ _).mono ?_; rintro e w' ⟨rfl, rfl⟩)
    go_ret
    exact ⟨rfl, rfl⟩
  · have hc : Ky.cmpS x y = -1 := by unfold Ky.cmpS; rw [if_pos h]
    rw [hc]
    clear hc
    go_enter Try.func24, Try.ntmps24
    go_wp2_with (go_at_call 28; refine (nanStr _ _).mono ?_; rintro e w' ⟨rfl, rfl⟩)
    go_ret
    exact ⟨rfl, rfl⟩
  · have h2 := Ky.less_asymm h
    have hc : Ky.cmpS x y = 1 := by unfold Ky.cmpS; rw [if_neg (by rw [h2]; decide), if_pos h]
    rw [hc]
    clear hc
    go_enter Try.func24, Try.ntmps24
    go_wp2_with (go_at_call 28; refine (nanStr _ _).mono ?_; rintro e w' ⟨rfl, rfl⟩)
    go_ret
    exact ⟨rfl, rfl⟩

/-- The first one that is not 0. -/
theorem first_two (a b : Int) (g : Nat) (w : World) (h0 : w.cell? ⟨g, 0, none⟩ = some (.int .i64 a)) (h1 : w.cell? ⟨g, 1, none⟩ = some (.int .i64 b)) :
    Calls Try.prog 22 #[.slice (some ⟨g, 0, none⟩) 2 2] w fun e w' => e = .returned (.int .i64 (if a = 0 then b else a)) ∧ w = w' := by
  by_cases ha : a = 0
  · subst ha
    by_cases hb : b = 0
    · subst hb
      go_enter Try.func22, Try.ntmps22
      go_wp2
      go_rounds 3
      go_ret
      exact ⟨rfl, rfl⟩
    · have hd : (b != 0) = true := by rw [bne_iff_ne]; exact hb
      go_enter Try.func22, Try.ntmps22
      go_wp2
      go_rounds 3
      go_ret
      exact ⟨rfl, rfl⟩
  · have hd : (a != 0) = true := by rw [bne_iff_ne]; exact ha
    rw [if_neg ha]
    go_enter Try.func22, Try.ntmps22
    go_wp2
    go_rounds 3
    go_ret
    exact ⟨rfl, rfl⟩
end Go.Proofs.Ytakgpljpdcjmfaa
