/- The walks of package keys, fifth part: Bounds, awake. -/
import Derived.Test.YtakgpljpdcjmfaaKeysWalks2
namespace Go.Proofs.Ytakgpljpdcjmfaa
open Go.RowKit

/-- Where the answer of Bounds ends. -/
def bend (b : Int) : List UInt8 := if b < 9223372036854775807 then Ky.enc (b + 1) else []
theorem bounds_bad (a b : Int) (h : b < a) (w : World) :
    Calls Try.prog 14 #[.int .i64 a, .int .i64 b] w fun e w' => e = .returned (.tuple #[.string ⟨#[]⟩, .string ⟨#[]⟩, .int .i64 10]) ∧ w = w' := by
  go_enter Try.func14, Try.ntmps14
  go_wp2
  go_returns
  exact ⟨rfl, rfl⟩
set_option maxHeartbeats 1000000 in
theorem bounds_good (a b : Int) (ha : Ky.In a) (hb : Ky.In b) (h : ¬ b < a) (w : World) :
    Calls Try.prog 14 #[.int .i64 a, .int .i64 b] w fun e w' => e = .returned (.tuple #[.string ⟨(Ky.enc a).toArray⟩, .string ⟨(bend b).toArray⟩, .int .i64 0]) ∧ Below w.heap.size w w' := by
  by_cases hm : b < 9223372036854775807
  · have hb1 : Ky.In (b + 1) := by unfold Ky.In at *; omega
    have he : bend b = Ky.enc (b + 1) := by unfold bend; rw [if_pos hm]
    rw [he]
    have H1 := Lib.hid hb1
    have Ha := Lib.hid ha
    have hb2 : -9223372036854775808 ≤ b := hb.1
    clear ha hb hb1 he
    have tok1 : True := trivial
    go_enter Try.func14, Try.ntmps14
    go_wp2_with (first
      | (have _t := tok1; go_at_call 19; refine (prefix_any (b + 1) H1.out _).mono ?_; rintro e w1 ⟨rfl, h1⟩; have HB1 := Lib.hid h1; clear h1 tok1)
      | (go_at_call 19; refine (prefix_any a Ha.out _).mono ?_; rintro e w2 ⟨rfl, h2⟩; have HB2 := Lib.hid h2; clear h2))
    go_returns
    exact ⟨rfl, HB1.out.trans (HB2.out.mono HB1.out.size)⟩
  · have he : bend b = [] := by unfold bend; rw [if_neg hm]
    rw [he]
    have Ha := Lib.hid ha
    clear ha hb he
    go_enter Try.func14, Try.ntmps14
    go_wp2_with (first
      | (go_at_call 19; refine (prefix_any a Ha.out _).mono ?_; rintro e w2 ⟨rfl, h2⟩; have HB2 := Lib.hid h2; clear h2))
    go_returns
    exact ⟨rfl, HB2.out⟩

theorem put_1a : Ky.put 1 [97] = [128, 0, 0, 0, 0, 0, 0, 1, 97] := by decide
theorem enc_m1 : Ky.enc (-1) = [127, 255, 255, 255, 255, 255, 255, 255] := by decide
theorem bend_0 : bend 0 = [128, 0, 0, 0, 0, 0, 0, 1] := by decide
set_option maxHeartbeats 1000000 in
theorem awake_any (w : World) : Calls Try.prog 9 #[] w fun e w' => e = .returned (.bool true) ∧ Below w.heap.size w w' := by
  have hp : ∀ w, Calls Try.prog 10 #[.agg #[.int .i64 1, .string ⟨#[97]⟩]] w fun e w' => e = .returned (.tuple #[.string ⟨#[128, 0, 0, 0, 0, 0, 0, 1, 97]⟩, .int .i64 0]) ∧ Below w.heap.size w w' := fun w => by
    have := put_good 1 (by unfold Ky.In; omega) [97] w (by decide)
    rw [put_1a] at this
    exact this
  have hb : ∀ w, Calls Try.prog 14 #[.int .i64 (-1), .int .i64 0] w fun e w' => e = .returned (.tuple #[.string ⟨#[127, 255, 255, 255, 255, 255, 255, 255]⟩, .string ⟨#[128, 0, 0, 0, 0, 0, 0, 1]⟩, .int .i64 0]) ∧ Below w.heap.size w w' := fun w => by
    have := bounds_good (-1) 0 (by unfold Ky.In; omega) (by unfold Ky.In; omega) (by decide) w
    rw [enc_m1, bend_0] at this
    exact this
  have HP := Lib.hid hp
  have HQ := Lib.hid hb
  have e1 := str_eql 9 [128, 0, 0, 0, 0, 0, 0, 1, 97] [128, 0, 0, 0, 0, 0, 0, 1, 97]
  have e2 := str_eql 9 [127, 255, 255, 255, 255, 255, 255, 255] [127, 255, 255, 255, 255, 255, 255, 255]
  have e3 := str_eql 9 [128, 0, 0, 0, 0, 0, 0, 1] [128, 0, 0, 0, 0, 0, 0, 1]
  simp only [beq_self_eq_true] at e1 e2 e3
  clear hp hb
  go_enter Try.func9, Try.ntmps9
  go_wp2_with (first
    | (go_at_call 10; refine (HP.out _).mono ?_; rintro e w1 ⟨rfl, h1⟩; have HB1 := Lib.hid h1; clear h1)
    | (go_at_call 14; refine (HQ.out _).mono ?_; rintro e w2 ⟨rfl, h2⟩; have HB2 := Lib.hid h2; clear h2))
  go_ret
  exact ⟨rfl, HB1.out.trans (HB2.out.mono HB1.out.size)⟩
end Go.Proofs.Ytakgpljpdcjmfaa
