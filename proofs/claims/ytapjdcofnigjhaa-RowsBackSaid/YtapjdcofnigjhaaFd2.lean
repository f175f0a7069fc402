/- Reading groups of seven bits, in plain lists. No program in sight. -/
import Derived.Test.YtapjdcofnigjhaaFd
namespace Go.Proofs.Ytapjdcofnigjhaa
namespace Fd
/-- The number whose groups from the k-th one on stand at the beginning, and how many bytes these are. -/
def parse : Nat → List UInt8 → Option (Nat × Nat)
  | _, [] => none
  | k, b :: bs =>
    if k = 9 ∧ 1 < b.toNat then none
    else if 128 ≤ b.toNat then (parse (k + 1) bs).map fun p => (b.toNat % 128 + 128 * p.1, p.2 + 1)
    else if b.toNat = 0 ∧ 0 < k then none
    else some (b.toNat, 1)
theorem parse_nil (k : Nat) : parse k [] = none := by unfold parse; rfl
theorem parse_big {k : Nat} {b : UInt8} {bs : List UInt8} (h : k = 9 ∧ 1 < b.toNat) : parse k (b :: bs) = none := by rw [parse, if_pos h]
theorem parse_more {k : Nat} {b : UInt8} {bs : List UInt8} (h : k ≠ 9) (hb : 128 ≤ b.toNat) : parse k (b :: bs) = (parse (k + 1) bs).map fun p => (b.toNat % 128 + 128 * p.1, p.2 + 1) := by
  rw [parse, if_neg (fun h' => h h'.1), if_pos hb]
theorem parse_zero {k : Nat} {b : UInt8} {bs : List UInt8} (hb : b.toNat = 0) (hk : 0 < k) : parse k (b :: bs) = none := by
  rw [parse, if_neg (by omega), if_neg (by omega), if_pos ⟨hb, hk⟩]
theorem parse_last {k : Nat} {b : UInt8} {bs : List UInt8} (h : ¬ (k = 9 ∧ 1 < b.toNat)) (hb : b.toNat < 128) (h0 : ¬ (b.toNat = 0 ∧ 0 < k)) : parse k (b :: bs) = some (b.toNat, 1) := by
  rw [parse, if_neg h, if_neg (by omega), if_neg h0]
theorem pow_up {n r k : Nat} (hk : k ≤ 8) (hr : r < 128) (h : n * 128 ^ (k + 1) < 18446744073709551616) : (r + 128 * n) * 128 ^ k < 18446744073709551616 := by
  obtain ⟨q, hq⟩ : ∃ q, 128 ^ (k + 1) * q = 18446744073709551616 := by
    have hkk : k = 0 ∨ k = 1 ∨ k = 2 ∨ k = 3 ∨ k = 4 ∨ k = 5 ∨ k = 6 ∨ k = 7 ∨ k = 8 := by omega
    rcases hkk with rfl | rfl | rfl | rfl | rfl | rfl | rfl | rfl | rfl
    · exact ⟨144115188075855872, by decide⟩
    · exact ⟨1125899906842624, by decide⟩
    · exact ⟨8796093022208, by decide⟩
    · exact ⟨68719476736, by decide⟩
    · exact ⟨536870912, by decide⟩
    · exact ⟨4194304, by decide⟩
    · exact ⟨32768, by decide⟩
    · exact ⟨256, by decide⟩
    · exact ⟨2, by decide⟩
  have hp : 0 < 128 ^ k := Nat.pow_pos (by decide)
  rw [← hq] at h ⊢
  have h1 : n < q := Nat.lt_of_mul_lt_mul_left (a := 128 ^ (k + 1)) (by rw [Nat.mul_comm _ n]; exact h)
  have h2 : 128 ^ (k + 1) * q = 128 * q * 128 ^ k := by rw [Nat.pow_succ, Nat.mul_comm (128 ^ k), Nat.mul_right_comm]
  rw [h2]
  exact Nat.mul_lt_mul_of_pos_right (by omega) hp
theorem pow_last {n k : Nat} (hk : k ≤ 9) (hn : n < 128) (h : k = 9 → n ≤ 1) : n * 128 ^ k < 18446744073709551616 := by
  by_cases hk9 : k = 9
  · subst hk9
    exact Nat.lt_of_le_of_lt (Nat.mul_le_mul_right _ (h rfl)) (by decide)
  · have h1 : 128 ^ k ≤ 128 ^ 8 := Nat.pow_le_pow_right (by decide) (by omega)
    exact Nat.lt_of_le_of_lt (Nat.mul_le_mul (show n ≤ 127 by omega) h1) (by decide)
theorem pow_one {n : Nat} (h : n * 128 ^ 9 < 18446744073709551616) : n ≤ 1 := by
  have : n < 2 := Nat.lt_of_mul_lt_mul_right (a := 128 ^ 9) (Nat.lt_of_lt_of_le h (by decide))
  omega
theorem pow_down {n k : Nat} (h : n * 128 ^ k < 18446744073709551616) : n / 128 * 128 ^ (k + 1) < 18446744073709551616 := by
  rw [Nat.pow_succ, Nat.mul_comm (128 ^ k) 128, ← Nat.mul_assoc]
  exact Nat.lt_of_le_of_lt (Nat.mul_le_mul_right _ (Nat.div_mul_le_self n 128)) h
/-- What is read. -/
theorem parse_some (bs : List UInt8) : ∀ (k n c : Nat), k ≤ 9 → parse k bs = some (n, c) → grp n = bs.take c ∧ 1 ≤ c ∧ c ≤ bs.length ∧ k + c ≤ 10 ∧ n * 128 ^ k < 18446744073709551616 ∧ (k = 0 ∨ 0 < n) := by
  induction bs with
  | nil => intro k n c _ h; rw [parse_nil] at h; cases h
  | cons b bs ih =>
    intro k n c hk h
    have hb256 := b.toNat_lt
    by_cases h1 : k = 9 ∧ 1 < b.toNat
    · rw [parse_big h1] at h; cases h
    by_cases h2 : 128 ≤ b.toNat
    · have hk9 : k ≠ 9 := fun e => h1 ⟨e, by omega⟩
      rw [parse_more hk9 h2] at h
      cases hp : parse (k + 1) bs with
      | none => rw [hp] at h; cases h
      | some p =>
        obtain ⟨n', c'⟩ := p
        rw [hp] at h
        simp only [Option.map_some, Option.some.injEq, Prod.mk.injEq] at h
        obtain ⟨rfl, rfl⟩ := h
        obtain ⟨i1, i2, i3, i4, i5, i6⟩ := ih (k + 1) n' c' (by omega) hp
        have hn : 0 < n' := by rcases i6 with h | h <;> omega
        refine ⟨?_, by omega, by rw [List.length_cons]; omega, by omega, ?_, .inr (by omega)⟩
        · rw [grp_big (by omega), List.take_succ_cons, show (b.toNat % 128 + 128 * n') % 128 = b.toNat % 128 by omega, show (b.toNat % 128 + 128 * n') / 128 = n' by omega, i1]
          congr 1
          rw [← UInt8.toNat_inj, UInt8.toNat_ofNat']
          omega
        · exact pow_up (by omega) (Nat.mod_lt _ (by decide)) i5
    · by_cases h3 : b.toNat = 0 ∧ 0 < k
      · rw [parse_zero h3.1 h3.2] at h; cases h
      · rw [parse_last h1 (by omega) h3] at h
        simp only [Option.some.injEq, Prod.mk.injEq] at h
        obtain ⟨rfl, rfl⟩ := h
        refine ⟨?_, by omega, by rw [List.length_cons]; omega, by omega, ?_, by omega⟩
        · rw [grp_small (by omega), List.take_succ_cons, List.take_zero]
          congr 1
          rw [← UInt8.toNat_inj, UInt8.toNat_ofNat']
          omega
        · exact pow_last hk (by omega) (fun e => by omega)
/-- What is written is read. -/
theorem parse_grp (m : Nat) : ∀ (k n : Nat) (rest : List UInt8), n < m → k ≤ 9 → n * 128 ^ k < 18446744073709551616 → (k = 0 ∨ 0 < n) → parse k (grp n ++ rest) = some (n, (grp n).length) := by
  induction m with
  | zero => intro k n rest h; omega
  | succ m ih =>
    intro k n rest hm hk hn h0
    by_cases hs : n < 128
    · have e : (UInt8.ofNat n).toNat = n := by rw [UInt8.toNat_ofNat']; omega
      rw [grp_small hs, List.singleton_append, parse_last (by
        rw [e]
        rintro ⟨rfl, h1⟩
        have := pow_one hn
        omega) (by omega) (by omega), e]
      rfl
    · have e : (UInt8.ofNat (n % 128 + 128)).toNat = n % 128 + 128 := by rw [UInt8.toNat_ofNat']; omega
      have hk9 : k ≠ 9 := by
        rintro rfl
        have := pow_one hn
        omega
      have hn2 := pow_down hn
      rw [grp_big (by omega), List.cons_append, parse_more hk9 (by omega), ih (k + 1) (n / 128) rest (by omega) (by omega) hn2 (.inr (by omega)), e]
      simp only [Option.map_some, List.length_cons]
      congr 2
      omega
theorem parse_back {n : Nat} (h : n < 18446744073709551616) (rest : List UInt8) : parse 0 (grp n ++ rest) = some (n, (grp n).length) :=
  parse_grp (n + 1) 0 n rest (by omega) (by omega) (by simpa using h) (.inl rfl)
theorem parse_at {bs : List UInt8} {n c : Nat} (h : parse 0 bs = some (n, c)) : n < 18446744073709551616 ∧ grp n = bs.take c ∧ 1 ≤ c ∧ c ≤ bs.length ∧ c ≤ 10 := by
  obtain ⟨h1, h2, h3, h4, h5, _⟩ := parse_some bs 0 n c (by omega) h
  exact ⟨by simpa using h5, h1, h2, h3, by omega⟩
/-- The walk's step. -/
def upto (n0 k : Nat) (p : Option (Nat × Nat)) : Option (Nat × Nat) := p.map fun q => (n0 + q.1 * 128 ^ k, q.2 + k)
theorem upto_step {n0 k b : Nat} (p : Option (Nat × Nat)) : upto n0 k (p.map fun q => (b + 128 * q.1, q.2 + 1)) = upto (n0 + b * 128 ^ k) (k + 1) p := by
  cases p with
  | none => rfl
  | some q =>
    simp only [upto, Option.map_some, Option.some.injEq, Prod.mk.injEq]
    refine ⟨?_, by omega⟩
    rw [Nat.add_mul, Nat.pow_succ, Nat.mul_comm 128 q.1, Nat.mul_assoc, Nat.mul_comm 128 (128 ^ k), Nat.add_assoc]
end Fd
end Go.Proofs.Ytapjdcofnigjhaa
