/- Numbers as groups of seven bits, in plain lists. No program in sight. -/
import GoSem.Op.String
namespace Go.Proofs.Ytapjdcofnigjhaa
namespace Fd
def grp (n : Nat) : List UInt8 := if n < 128 then [UInt8.ofNat n] else UInt8.ofNat (n % 128 + 128) :: grp (n / 128)
termination_by n
decreasing_by omega
theorem grp_small {n : Nat} (h : n < 128) : grp n = [UInt8.ofNat n] := by rw [grp, if_pos h]
theorem grp_big {n : Nat} (h : 128 ≤ n) : grp n = UInt8.ofNat (n % 128 + 128) :: grp (n / 128) := by rw [grp, if_neg (by omega)]
theorem grp_len (k : Nat) : ∀ n, n < 128 ^ (k + 1) → (grp n).length ≤ k + 1 := by
  induction k with
  | zero => intro n h; rw [grp_small (by simpa using h)]; simp
  | succ k ih =>
    intro n h
    by_cases hn : n < 128
    · rw [grp_small hn]; simp
    · rw [grp_big (by omega), List.length_cons]
      have := ih (n / 128) (Nat.div_lt_of_lt_mul (by rw [Nat.pow_succ] at h; omega))
      omega
theorem grp_pos (n : Nat) : 1 ≤ (grp n).length := by
  rw [grp]; split <;> simp
theorem grp_ten {n : Nat} (h : n < 18446744073709551616) : (grp n).length ≤ 10 := grp_len 9 n (Nat.lt_of_lt_of_le h (by decide))
theorem grp_nine {n : Nat} (h : n < 9223372036854775808) : (grp n).length ≤ 9 := grp_len 8 n (Nat.lt_of_lt_of_le h (by decide))
/-- a number, folded -/
def zig (v : Int) : Nat := if v < 0 then (2 * (-1 - v) + 1).toNat else (2 * v).toNat
def zag (n : Nat) : Int := if n % 2 = 1 then -1 - (n / 2 : Nat) else (n / 2 : Nat)
def In (v : Int) : Prop := -9223372036854775808 ≤ v ∧ v ≤ 9223372036854775807
theorem zig_lt {v : Int} (h : In v) : zig v < 18446744073709551616 := by unfold zig In at *; split <;> omega
theorem zag_zig (v : Int) : zag (zig v) = v := by
  unfold zig zag
  split
  · rename_i h
    have : (2 * (-1 - v) + 1).toNat % 2 = 1 := by omega
    rw [if_pos this]; omega
  · rename_i h
    have : ¬ (2 * v).toNat % 2 = 1 := by omega
    rw [if_neg this]; omega
theorem zig_zag (n : Nat) : zig (zag n) = n := by
  unfold zag
  split
  · unfold zig; rw [if_pos (by omega)]; omega
  · unfold zig; rw [if_neg (by omega)]; omega
theorem zag_in {n : Nat} (h : n < 18446744073709551616) : In (zag n) := by
  unfold zag In; split <;> omega
end Fd
end Go.Proofs.Ytapjdcofnigjhaa
