/- gather: eight bytes as a number. -/
import Derived.Test.YtakgpljpdcjmfaaKeysWalks4
namespace Go.Proofs.Ytakgpljpdcjmfaa
open Go.RowKit

theorem u64_or (n b : Nat) (hb : b < 256) (h : 256 * n + b < 18446744073709551616) : bits .or .u64 ((n : Int) * 256) (b : Int) = ((256 * n + b : Nat) : Int) := by
  have e1 : (BitVec.ofInt 64 ((n : Int) * 256)).toNat = 256 * n := by rw [BitVec.toNat_ofInt]; omega
  have e2 : (BitVec.ofInt 64 (b : Int)).toNat = b := by rw [BitVec.toNat_ofInt]; omega
  have key : (BitVec.ofInt 64 ((n : Int) * 256) ||| BitVec.ofInt 64 (b : Int)).toNat = 256 * n + b := by
    rw [BitVec.toNat_or, e1, e2]
    exact (Nat.two_pow_add_eq_or_of_lt (i := 8) hb n).symm
  show IntKind.u64.wrap ((BitVec.ofInt 64 ((n : Int) * 256) ||| BitVec.ofInt 64 (b : Int)).toNat : Nat) = _
  rw [key, IntKind.wrap_u64]
  omega

set_option maxRecDepth 100000 in
set_option maxHeartbeats 1000000 in
theorem gather_any (b0 b1 b2 b3 b4 b5 b6 b7 : UInt8) (w : World) :
    Calls Try.prog 20 #[.agg #[.int .u8 b0.toNat, .int .u8 b1.toNat, .int .u8 b2.toNat, .int .u8 b3.toNat, .int .u8 b4.toNat, .int .u8 b5.toNat, .int .u8 b6.toNat, .int .u8 b7.toNat]] w fun e w' => e = .returned (.int .i64 (Ky.dec [b0, b1, b2, b3, b4, b5, b6, b7])) ∧ Below w.heap.size w w' := by
  have hm := eight_made w b0 b1 b2 b3 b4 b5 b6 b7 47 (0, 0)
  obtain ⟨W, hW⟩ : ∃ W, W = w.alloc (.cells #[.int .u8 b0.toNat, .int .u8 b1.toNat, .int .u8 b2.toNat, .int .u8 b3.toNat, .int .u8 b4.toNat, .int .u8 b5.toNat, .int .u8 b6.toNat, .int .u8 b7.toNat] 47) := ⟨_, rfl⟩
  have hb := al1 w (.cells #[.int .u8 b0.toNat, .int .u8 b1.toNat, .int .u8 b2.toNat, .int .u8 b3.toNat, .int .u8 b4.toNat, .int .u8 b5.toNat, .int .u8 b6.toNat, .int .u8 b7.toNat] 47)
  rw [← hW] at hm hb
  have HB := Lib.hid hb
  have HW := Lib.hid hW
  generalize hl : [b0, b1, b2, b3, b4, b5, b6, b7] = l at *
  have hlen : l.length = 8 := by rw [← hl]; rfl
  have HC : Hid (∀ k b, l[k]? = some b → W.cell? ⟨w.heap.size, k, none⟩ = some (.int .u8 b.toNat)) := Lib.hid (fun k b h => by
    have := hm.cell _ rfl k _ (bytesV_get h)
    rwa [Addr.add_lit, Nat.zero_add] at this)
  clear hm hb hW hl
  go_enter Try.func20, Try.ntmps20
  go_wp2
  rw [← HW.out]
  go_loop [3, 5] (fun x i => ∃ k : Nat, k ≤ 8 ∧ i = .int .i64 k ∧ x = .int .u64 (Ky.val (l.take k))) (fun _ i => 8 - (intOf i).toNat)
  case atStart => exact ⟨0, by omega, rfl, rfl⟩
  case round =>
    obtain ⟨k, hk, rfl, rfl⟩ := hrel
    by_cases hlt : k < 8
    · obtain ⟨b, hb⟩ : ∃ b, l[k]? = some b := ⟨_, List.getElem?_eq_getElem (by omega)⟩
      have hcell := HC.out k b hb
      have hv := Ky.val_lt (l.take k)
      have HS : Hid (Ky.val (l.take (k + 1)) = 256 * Ky.val (l.take k) + b.toNat) := Lib.hid (by rw [List.take_add_one, hb]; exact Ky.val_snoc _ _)
      have hbl := b.toNat_lt
      have hq : Ky.val (l.take k) < 72057594037927936 := by
        rw [List.length_take, Nat.min_eq_left (by omega)] at hv
        have h3 := Nat.pow_le_pow_right (n := 256) (by decide) (show k ≤ 7 by omega)
        have h4 : (256 : Nat) ^ 7 = 72057594037927936 := by decide
        omega
      clear hb hv
      generalize Ky.val (l.take k) = q at *
      have hor := u64_or q b.toNat hbl (by omega)
      go_wp2
      go_round
      case rel => exact ⟨k + 1, by omega, by go_num, by rw [HS.out, Int.natCast_add, Int.natCast_mul]; rfl⟩
      case measure => simp [intOf]; omega
    · obtain rfl : k = 8 := by omega
      have hv := Ky.val_lt l
      have ht : l.take 8 = l := List.take_of_length_le (by omega)
      rw [hlen] at hv
      have h4 : (256 : Nat) ^ 8 = 18446744073709551616 := by decide
      have hq : Ky.val l < 18446744073709551616 := by omega
      have HD : Hid (Ky.dec l = (Ky.val l : Int) - 9223372036854775808) := Lib.hid rfl
      rw [ht]
      clear hv ht h4
      generalize Ky.val l = q at *
      have hwr : IntKind.i64.wrap (IntKind.u64.wrap ((q : Int) - 9223372036854775808)) = (q : Int) - 9223372036854775808 := by
        simp only [IntKind.wrap_u64, IntKind.wrap_i64]
        omega
      go_wp2
      rw [HD.out]
      go_ret
      exact ⟨rfl, HB.out⟩
end Go.Proofs.Ytakgpljpdcjmfaa
