/- What the document's reader of groups says, in plain lists. No program in sight. -/
import Derived.Test.YtapjdcofnigjhaaFd2
namespace Go.Proofs.Ytapjdcofnigjhaa
namespace Fd
/-- How many bytes at the beginning say that more follows. -/
def lead : List UInt8 → Nat
  | [] => 0
  | b :: bs => if 128 ≤ b.toNat then lead bs + 1 else 0
theorem lead_le (bs : List UInt8) : lead bs ≤ bs.length := by
  induction bs with
  | nil => exact Nat.le_refl _
  | cons b bs ih => rw [lead, List.length_cons]; split <;> omega
theorem lead_at (bs : List UInt8) : ∀ k, k < lead bs → ∃ x, bs[k]? = some x ∧ 128 ≤ x.toNat := by
  induction bs with
  | nil => intro k h; cases h
  | cons b bs ih =>
    intro k h
    rw [lead] at h
    split at h
    · rename_i hb
      cases k with
      | zero => exact ⟨b, rfl, hb⟩
      | succ k => exact ih k (by omega)
    · cases h
theorem lead_end (bs : List UInt8) : ∀ x, bs[lead bs]? = some x → x.toNat < 128 := by
  induction bs with
  | nil => intro x h; cases h
  | cons b bs ih =>
    intro x h
    rw [lead] at h
    split at h
    · exact ih x (by simpa using h)
    · simp at h
      subst h
      omega
/-- The number. -/
def val : List UInt8 → Nat
  | [] => 0
  | b :: bs => b.toNat % 128 + 128 * val bs
theorem val_snoc (l : List UInt8) (b : UInt8) : val (l ++ [b]) = val l + b.toNat % 128 * 128 ^ l.length := by
  induction l with
  | nil => simp [val]
  | cons x l ih =>
    rw [List.cons_append, val, ih, val, List.length_cons, Nat.pow_succ, Nat.mul_add, Nat.add_assoc]
    congr 1
    congr 1
    rw [Nat.mul_comm (128 ^ l.length) 128, ← Nat.mul_assoc, ← Nat.mul_assoc, Nat.mul_comm 128]
theorem val_lt (l : List UInt8) : val l < 128 ^ l.length := by
  induction l with
  | nil => simp [val]
  | cons x l ih =>
    rw [val, List.length_cons, Nat.pow_succ]
    have := Nat.mod_lt x.toNat (show 0 < 128 by decide)
    omega
theorem grp_val (m : Nat) : ∀ n, n < m → val (grp n) = n ∧ ∀ rest, lead (grp n ++ rest) + 1 = (grp n).length := by
  induction m with
  | zero => intro n h; omega
  | succ m ih =>
    intro n h
    by_cases hs : n < 128
    · have e : (UInt8.ofNat n).toNat = n := by rw [UInt8.toNat_ofNat']; omega
      rw [grp_small hs]
      refine ⟨by simp only [val, e]; omega, fun rest => ?_⟩
      rw [List.singleton_append, lead, e, if_neg (by omega)]
      rfl
    · have e : (UInt8.ofNat (n % 128 + 128)).toNat = n % 128 + 128 := by rw [UInt8.toNat_ofNat']; omega
      obtain ⟨i1, i2⟩ := ih (n / 128) (by omega)
      rw [grp_big (by omega)]
      refine ⟨by rw [val, e, i1]; omega, fun rest => ?_⟩
      rw [List.cons_append, lead, e, if_pos (by omega), List.length_cons, i2 rest]
/-- What the document's reader finds. -/
def refP (bs : List UInt8) : Option (Nat × Nat) :=
  if lead bs + 1 ≤ bs.length ∧ lead bs + 1 ≤ 10 ∧ (lead bs + 1 = 10 → ∀ x, bs[9]? = some x → x.toNat ≤ 1) ∧ grp (val (bs.take (lead bs + 1))) <+: bs then some (val (bs.take (lead bs + 1)), lead bs + 1) else none
theorem take_snoc' {bs : List UInt8} {k : Nat} {x : UInt8} (h : bs[k]? = some x) : bs.take (k + 1) = bs.take k ++ [x] := by rw [List.take_add_one, h]; rfl
theorem val_bound {bs : List UInt8} {s : Nat} (hs : s ≤ bs.length) (h10 : s ≤ 10) (h9 : s = 10 → ∀ x, bs[9]? = some x → x.toNat ≤ 1) : val (bs.take s) < 18446744073709551616 := by
  by_cases h : s = 10
  · subst h
    obtain ⟨x, hx⟩ : ∃ x, bs[9]? = some x := ⟨_, List.getElem?_eq_getElem (by omega)⟩
    have hx1 := h9 rfl x hx
    rw [take_snoc' hx, val_snoc]
    have h1 := val_lt (bs.take 9)
    rw [List.length_take, Nat.min_eq_left (by omega)] at h1 ⊢
    have h2 : x.toNat % 128 * 128 ^ 9 ≤ 1 * 128 ^ 9 := Nat.mul_le_mul_right _ (by omega)
    have h3 : (128 : Nat) ^ 9 + 1 * 128 ^ 9 = 18446744073709551616 := by decide
    rw [← h3]
    exact Nat.add_lt_add_of_lt_of_le h1 h2
  · have h1 := val_lt (bs.take s)
    rw [List.length_take, Nat.min_eq_left hs] at h1
    exact Nat.lt_of_lt_of_le h1 (Nat.le_trans (Nat.pow_le_pow_right (by decide) (show s ≤ 9 by omega)) (by decide))
theorem refP_eq (bs : List UInt8) : refP bs = parse 0 bs := by
  unfold refP
  split
  · rename_i h
    obtain ⟨h1, h2, h3, rest, h4⟩ := h
    have hv := val_bound h1 h2 h3
    obtain ⟨_, hl⟩ := grp_val _ _ (Nat.lt_succ_self (val (bs.take (lead bs + 1))))
    have hl2 := hl rest
    rw [h4] at hl2
    have := parse_back hv rest
    rw [h4, ← hl2] at this
    exact this.symm
  · rename_i h
    cases hp : parse 0 bs with
    | none => rfl
    | some q =>
      exfalso
      obtain ⟨n, c⟩ := q
      obtain ⟨hn, hg, hc1, hcl, hc10⟩ := parse_at hp
      apply h
      obtain ⟨hv, hl⟩ := grp_val _ _ (Nat.lt_succ_self n)
      have hbs : grp n ++ bs.drop c = bs := by rw [hg, List.take_append_drop]
      have hl2 := hl (bs.drop c)
      rw [hbs, hg, List.length_take, Nat.min_eq_left hcl] at hl2
      rw [hl2, ← hg, hv]
      refine ⟨hcl, hc10, fun e x hx => ?_, ⟨_, hbs⟩⟩
      subst e
      have hlt : x.toNat < 128 := lead_end bs x (by rw [show lead bs = 9 by omega]; exact hx)
      have hval : val (bs.take 10) = n := by rw [← hg, hv]
      rw [take_snoc' hx, val_snoc, List.length_take, Nat.min_eq_left (by omega)] at hval
      have : x.toNat % 128 * 128 ^ 9 < 18446744073709551616 := by omega
      have := pow_one this
      omega
/-- The half, the one that is left, the size. -/
def refN : Option (Nat × Nat) → Nat × Nat × Nat
  | none => (0, 0, 0)
  | some q => (q.1 / 2, q.1 % 2, q.2)
end Fd
end Go.Proofs.Ytapjdcofnigjhaa
