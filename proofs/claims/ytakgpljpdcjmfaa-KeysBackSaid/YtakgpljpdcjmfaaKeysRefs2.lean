/- The checker's Number: the number that eight bytes are. -/
import Derived.Test.YtakgpljpdcjmfaaKeysWalks4
namespace Go.Proofs.Ytakgpljpdcjmfaa
open Go.RowKit

/-- The sum behind k bytes. -/
def Nk (l : List UInt8) (k : Nat) : Int := (Ky.val (l.take k) : Int) - 128 * 256 ^ (k - 1)
theorem Nk_one {l : List UInt8} {b : UInt8} (h : l[0]? = some b) : Nk l 1 = (b.toNat : Int) - 128 := by
  match l, h with
  | c :: l, h =>
    simp only [List.getElem?_cons_zero, Option.some.injEq] at h
    subst h
    simp [Nk, Ky.val]
theorem Nk_succ {l : List UInt8} {k : Nat} {b : UInt8} (hk : 1 ≤ k) (h : l[k]? = some b) : Nk l (k + 1) = 256 * Nk l k + b.toNat := by
  unfold Nk
  rw [List.take_add_one, h]
  simp only [Option.toList_some]
  rw [Ky.val_snoc]
  obtain ⟨m, rfl⟩ : ∃ m, k = m + 1 := ⟨k - 1, by omega⟩
  simp only [Nat.add_sub_cancel]
  rw [Int.pow_succ]
  generalize (256 : Int) ^ m = p
  generalize Ky.val (l.take (m + 1)) = q
  omega
theorem Nk_bounds {l : List UInt8} {k : Nat} (h1 : 1 ≤ k) (h2 : k ≤ 8) (hl : k ≤ l.length) : -(128 * 256 ^ (k - 1) : Int) ≤ Nk l k ∧ Nk l k < 128 * 256 ^ (k - 1) := by
  have h := Ky.val_lt (l.take k)
  rw [List.length_take, Nat.min_eq_left hl] at h
  obtain ⟨m, rfl⟩ : ∃ m, k = m + 1 := ⟨k - 1, by omega⟩
  unfold Nk
  simp only [Nat.add_sub_cancel]
  rw [Nat.pow_succ] at h
  have hc : ((256 ^ m : Nat) : Int) = (256 : Int) ^ m := by simp
  rw [← hc]
  omega
theorem Nk_eight {l : List UInt8} : Nk l 8 = Ky.dec (l.take 8) := by
  unfold Nk Ky.dec
  have : (128 * 256 ^ (8 - 1) : Int) = 9223372036854775808 := by decide
  rw [this]
theorem Nk_small {l : List UInt8} {k : Nat} (h1 : 1 ≤ k) (h2 : k < 8) (hl : k ≤ l.length) : -36028797018963968 ≤ Nk l k ∧ Nk l k ≤ 36028797018963967 := by
  have h := Nk_bounds h1 (by omega) hl
  have hp : (128 * 256 ^ (k - 1) : Int) ≤ 36028797018963968 := by
    have : k - 1 ≤ 6 := by omega
    have h3 := Nat.pow_le_pow_right (n := 256) (by decide) this
    have hc : ((256 ^ (k - 1) : Nat) : Int) = (256 : Int) ^ (k - 1) := by simp
    rw [← hc]
    have h4 : (256 : Nat) ^ 6 = 281474976710656 := by decide
    omega
  omega

set_option maxRecDepth 100000 in
set_option maxHeartbeats 1000000 in
theorem refNumber (l : List UInt8) (hl : 8 ≤ l.length) (hl2 : l.length ≤ 1000000) (w : World) :
    Calls Try.prog 16 #[.string ⟨l.toArray⟩] w fun e w' => e = .returned (.int .i64 (Ky.dec (l.take 8))) ∧ w = w' := by
  obtain ⟨b0, hb0⟩ : ∃ b, l[0]? = some b := ⟨_, List.getElem?_eq_getElem (by omega)⟩
  have HN := Lib.hid (Nk_one hb0)
  have ri0 : ∀ w, (Instr.index 9 (.string ⟨l.toArray⟩) (.int .i64 0)).run Try.prog w = .ok (.int .u8 b0.toNat) w := fun w => idx_run hb0 w
  have hbl := b0.toNat_lt
  rw [← Nk_eight]
  clear hb0
  go_enter Try.func16, Try.ntmps16
  go_wp2
  clear ri0
  go_loop [3, 4] (fun n i => ∃ k : Nat, 1 ≤ k ∧ k ≤ 8 ∧ i = .int .i64 k ∧ n = .int .i64 (Nk l k)) (fun _ i => 8 - (intOf i).toNat)
  case atStart => exact ⟨1, by omega, by omega, rfl, by rw [HN.out]⟩
  case round =>
    obtain ⟨k, hk1, hk, rfl, rfl⟩ := hrel
    by_cases hlt : k < 8
    · obtain ⟨b, hb⟩ : ∃ b, l[k]? = some b := ⟨_, List.getElem?_eq_getElem (by omega)⟩
      have ri := fun w => idx_run hb w
      have HS := Lib.hid (Nk_succ hk1 hb)
      have hsm := Nk_small hk1 hlt (l := l) (by omega)
      have hbl2 := b.toNat_lt
      obtain ⟨hs1, hs2⟩ := hsm
      clear hb
      generalize Nk l k = q at *
      go_wp2
      go_round
      case rel => exact ⟨k + 1, by omega, by omega, by go_num, by rw [HS.out]⟩
      case measure => simp [intOf]; omega
    · obtain rfl : k = 8 := by omega
      go_wp2
      go_ret
      exact ⟨rfl, rfl⟩
end Go.Proofs.Ytakgpljpdcjmfaa
