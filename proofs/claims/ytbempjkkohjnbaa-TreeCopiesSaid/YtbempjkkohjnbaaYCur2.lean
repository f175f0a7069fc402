/- Joined: Cur2. -/
import Derived.Test.YtbempjkkohjnbaaYCur1
/- A cursor: Seek. -/
namespace Go.Proofs.Ytbempjkkohjnbaa
open Go.RowKit Tr
open Ky (less)

/-- Is a key out of a cursor's range? -/
def outC (s t k : Str) : Bool := less k s || (decide (t ≠ []) && less t k)
set_option maxHeartbeats 1000000 in
theorem seekC_bad (c b : Nat) (s t at_ k : Str) (w : World) (hk : CurAt w c b s t at_) (ho : outC s t k = true) :
    Calls Try.prog 28 #[ptrV c, .string ⟨k.toArray⟩] w fun e V => e = .returned (.int .i64 17) ∧ w = V := by
  have c1 := hk.c1
  have c2 := hk.c2
  have q1 := str_lss 9 k s
  have q2 := str_neq 9 t []
  have q3 := str_gtr 9 k t
  have hcase : Op.bytesLess k s = true ∨ (Op.bytesLess k s = false ∧ (t == []) = false ∧ Op.bytesLess t k = true) := by
    cases h : Op.bytesLess k s with
    | true => exact .inl rfl
    | false =>
      have h2 : less k s = false := h
      have : t ≠ [] ∧ less t k = true := by simpa [outC, h2] using ho
      exact .inr ⟨rfl, by simp [this.1], this.2⟩
  clear hk ho
  rcases hcase with e | ⟨e1, e2, e3⟩
  · rw [e] at q1
    clear q2 q3 e
    go_enter Try.func28, Try.ntmps28
    go_wp2
    go_ret
    exact ⟨rfl, rfl⟩
  · rw [e1] at q1
    rw [e2] at q2
    rw [e3] at q3
    clear e1 e2 e3
    go_enter Try.func28, Try.ntmps28
    go_wp2
    go_ret
    exact ⟨rfl, rfl⟩
set_option maxHeartbeats 1000000 in
theorem seekC_ok (c b : Nat) (s t at_ k : Str) (w : World) (hk : CurAt w c b s t at_) (ho : outC s t k = false) :
    Calls Try.prog 28 #[ptrV c, .string ⟨k.toArray⟩] w fun e V => e = .returned (.int .i64 0) ∧ CurAt V c b s t k ∧ Fr (fun j _ => j = c) w V := by
  have c1 := hk.c1
  have c2 := hk.c2
  have c3 := hk.c3
  have f3 := hk.f3
  have HK := Lib.hid hk
  have q1 := str_lss 9 k s
  have q2 := str_neq 9 t []
  have q3 := str_gtr 9 k t
  have h1 : Op.bytesLess k s = false := by
    have : less k s = false := by
      cases h : less k s with
      | false => rfl
      | true => simp [outC, h] at ho
    exact this
  have hcase : (t == []) = true ∨ ((t == []) = false ∧ Op.bytesLess t k = false) := by
    by_cases ht : t = []
    · exact .inl (by simp [ht])
    · have h2 : less k s = false := h1
      have : less t k = false := by simpa [outC, h2, ht] using ho
      exact .inr ⟨by simp [ht], this⟩
  rw [h1] at q1
  clear hk ho h1
  rcases hcase with e | ⟨e2, e3⟩
  · rw [e] at q2
    clear q3 e
    go_enter Try.func28, Try.ntmps28
    go_wp2
    go_ret
    exact ⟨rfl, HK.out.go _, fr_own w c 3 _⟩
  · rw [e2] at q2
    rw [e3] at q3
    clear e2 e3
    go_enter Try.func28, Try.ntmps28
    go_wp2
    go_ret
    exact ⟨rfl, HK.out.go _, fr_own w c 3 _⟩
end Go.Proofs.Ytbempjkkohjnbaa
