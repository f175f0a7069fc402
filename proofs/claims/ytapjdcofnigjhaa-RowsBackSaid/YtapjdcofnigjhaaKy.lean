/- Entries as bytes that have their order, in plain numbers and lists. No program in sight. -/
import GoSem.Op.String
namespace Go.Proofs.Ytapjdcofnigjhaa
namespace Ky
open Go
def be : Nat → Nat → List UInt8
  | 0, _ => []
  | k + 1, n => be k (n / 256) ++ [UInt8.ofNat n]
def val (l : List UInt8) : Nat := l.foldl (fun a b => 256 * a + b.toNat) 0
theorem val_snoc (l : List UInt8) (b : UInt8) : val (l ++ [b]) = 256 * val l + b.toNat := by simp [val]
theorem be_length (k n : Nat) : (be k n).length = k := by
  induction k generalizing n with
  | zero => rfl
  | succ k ih => simp [be, ih]
theorem val_be (k n : Nat) : val (be k n) = n % 256 ^ k := by
  induction k generalizing n with
  | zero => simp [be, val, Nat.mod_one]
  | succ k ih =>
    have h : n % 256 ^ (k + 1) = 256 * (n / 256 % 256 ^ k) + n % 256 := by
      rw [Nat.pow_succ, Nat.mul_comm (256 ^ k) 256, Nat.mod_mul]
      omega
    rw [be, val_snoc, ih, h]
    simp
theorem exists_snoc {l : List UInt8} {k : Nat} (h : l.length = k + 1) : ∃ i b, l = i ++ [b] ∧ i.length = k := by
  have hne : l ≠ [] := by rintro rfl; simp at h
  refine ⟨l.dropLast, l.getLast hne, (List.dropLast_concat_getLast hne).symm, by simp; omega⟩
theorem be_val (l : List UInt8) : be l.length (val l) = l := by
  generalize hk : l.length = k
  induction k generalizing l with
  | zero => rw [List.eq_nil_of_length_eq_zero hk]; rfl
  | succ k ih =>
    obtain ⟨i, b, rfl, hi⟩ := exists_snoc hk
    have hb := b.toNat_lt
    rw [be, val_snoc, show (256 * val i + b.toNat) / 256 = val i by omega, ih i hi]
    congr 2
    refine UInt8.toNat_inj.1 ?_
    rw [UInt8.toNat_ofNat']
    omega
theorem val_lt (l : List UInt8) : val l < 256 ^ l.length := by
  have h := val_be l.length (val l)
  rw [be_val] at h
  rw [h]
  exact Nat.mod_lt _ (Nat.pow_pos (by decide))
/-- a value's number, its bytes, and back -/
def nat (v : Int) : Nat := (v + 9223372036854775808).toNat
def enc (v : Int) : List UInt8 := be 8 (nat v)
def dec (l : List UInt8) : Int := (val l : Int) - 9223372036854775808
def In (v : Int) : Prop := -9223372036854775808 ≤ v ∧ v ≤ 9223372036854775807
theorem enc_length (v : Int) : (enc v).length = 8 := be_length 8 _
theorem val_enc {v : Int} (h : In v) : val (enc v) = nat v := by
  rw [enc, val_be, nat]
  unfold In at h
  exact Nat.mod_eq_of_lt (by omega)
theorem dec_enc {v : Int} (h : In v) : dec (enc v) = v := by
  rw [dec, val_enc h, nat]
  unfold In at h
  omega
theorem dec_in {l : List UInt8} (h : l.length = 8) : In (dec l) := by
  have := val_lt l
  rw [h] at this
  unfold In dec
  omega
theorem enc_dec {l : List UInt8} (h : l.length = 8) : enc (dec l) = l := by
  have hb := be_val l
  rw [h] at hb
  unfold enc nat dec
  rw [show ((val l : Int) - 9223372036854775808 + 9223372036854775808).toNat = val l by omega, hb]
theorem enc_inj {v w : Int} (hv : In v) (hw : In w) (h : enc v = enc w) : v = w := by
  rw [← dec_enc hv, ← dec_enc hw, h]
abbrev less := Op.bytesLess
theorem less_nil_left (y : List UInt8) : less [] y = !y.isEmpty := by cases y <;> rfl
theorem less_nil_right (x : List UInt8) : less x [] = false := by cases x <;> rfl
theorem less_self (x : List UInt8) : less x x = false := by
  induction x with
  | nil => rfl
  | cons a x ih => simp [Op.bytesLess, ih]
theorem less_append (x y a b : List UInt8) (h : x.length = y.length) : less (x ++ a) (y ++ b) = (less x y || (x == y && less a b)) := by
  induction x generalizing y with
  | nil =>
    have : y = [] := List.eq_nil_of_length_eq_zero h.symm
    subst this
    simp [Op.bytesLess]
  | cons c x ih =>
    match y, h with
    | d :: y, h =>
      have h' : x.length = y.length := by simpa using h
      simp only [List.cons_append, Op.bytesLess, ih y h', List.cons_beq_cons]
      cases c == d <;> cases decide (c < d) <;> simp
def vl : List UInt8 → Nat
  | [] => 0
  | b :: bs => b.toNat * 256 ^ bs.length + vl bs
theorem vl_snoc (l : List UInt8) (b : UInt8) : vl (l ++ [b]) = 256 * vl l + b.toNat := by
  induction l with
  | nil => simp [vl]
  | cons c l ih =>
    rw [List.cons_append, vl, ih, vl, List.length_append, List.length_singleton, Nat.pow_succ, Nat.mul_add, Nat.mul_comm (256 ^ l.length) 256, Nat.mul_left_comm]
    omega
theorem vl_eq (l : List UInt8) : vl l = val l := by
  generalize hk : l.length = k
  induction k generalizing l with
  | zero => rw [List.eq_nil_of_length_eq_zero hk]; rfl
  | succ k ih =>
    obtain ⟨i, b, rfl, hi⟩ := exists_snoc hk
    rw [vl_snoc, val_snoc, ih i hi]
theorem less_val (x y : List UInt8) (h : x.length = y.length) : less x y = decide (val x < val y) := by
  rw [← vl_eq, ← vl_eq]
  induction x generalizing y with
  | nil =>
    have : y = [] := List.eq_nil_of_length_eq_zero h.symm
    subst this
    simp [Op.bytesLess, vl]
  | cons c x ih =>
    match y, h with
    | d :: y, h =>
      have h' : x.length = y.length := by simpa using h
      have hx : vl x < 256 ^ x.length := by rw [vl_eq]; exact val_lt x
      have hy : vl y < 256 ^ x.length := by rw [vl_eq, h']; exact val_lt y
      simp only [Op.bytesLess, ih y h', vl, ← h']
      rw [Bool.eq_iff_iff]
      simp only [Bool.or_eq_true, decide_eq_true_eq, Bool.and_eq_true, beq_iff_eq, UInt8.lt_iff_toNat_lt]
      generalize 256 ^ x.length = p at *
      constructor
      · rintro (h1 | ⟨rfl, h1⟩)
        · have : (c.toNat + 1) * p ≤ d.toNat * p := Nat.mul_le_mul_right _ h1
          rw [Nat.add_mul] at this
          omega
        · omega
      · intro h1
        rcases Nat.lt_trichotomy c.toNat d.toNat with h2 | h2 | h2
        · exact .inl h2
        · exact .inr ⟨UInt8.toNat_inj.1 h2, by rw [h2] at h1; omega⟩
        · have : (d.toNat + 1) * p ≤ c.toNat * p := Nat.mul_le_mul_right _ h2
          rw [Nat.add_mul] at this
          omega
theorem less_enc {v w : Int} (hv : In v) (hw : In w) : less (enc v) (enc w) = decide (v < w) := by
  rw [less_val _ _ (by rw [enc_length, enc_length]), val_enc hv, val_enc hw]
  unfold nat In at *
  rw [Bool.eq_iff_iff]
  simp only [decide_eq_true_eq]
  omega
/-- the order of entries -/
def cmpS (s t : List UInt8) : Int := if less s t then -1 else if less t s then 1 else 0
def cmpE (v : Int) (s : List UInt8) (w : Int) (t : List UInt8) : Int := if v < w then -1 else if w < v then 1 else cmpS s t
theorem less_trich (s t : List UInt8) : s = t ∨ less s t = true ∨ less t s = true := by
  induction s generalizing t with
  | nil => cases t <;> simp [Op.bytesLess]
  | cons a s ih =>
    match t with
    | [] => simp [Op.bytesLess]
    | b :: t =>
      rcases Nat.lt_trichotomy a.toNat b.toNat with h | h | h
      · exact .inr (.inl (by simp [Op.bytesLess, UInt8.lt_iff_toNat_lt, h]))
      · have hab : a = b := UInt8.toNat_inj.1 h
        subst hab
        rcases ih t with rfl | h1 | h1
        · exact .inl rfl
        · exact .inr (.inl (by simp [Op.bytesLess, h1]))
        · exact .inr (.inr (by simp [Op.bytesLess, h1]))
      · exact .inr (.inr (by simp [Op.bytesLess, UInt8.lt_iff_toNat_lt, h]))
theorem less_asymm {s t : List UInt8} (h : less s t = true) : less t s = false := by
  induction s generalizing t with
  | nil => cases t <;> simp_all [Op.bytesLess]
  | cons a s ih =>
    match t, h with
    | b :: t, h =>
      simp only [Op.bytesLess, Bool.or_eq_true, decide_eq_true_eq, Bool.and_eq_true, beq_iff_eq, UInt8.lt_iff_toNat_lt] at h
      simp only [Op.bytesLess, Bool.or_eq_false_iff, decide_eq_false_iff_not, UInt8.lt_iff_toNat_lt, Bool.and_eq_false_iff, beq_eq_false_iff_ne]
      rcases h with h | ⟨rfl, h⟩
      · exact ⟨by omega, .inl (fun e => by rw [e] at h; omega)⟩
      · exact ⟨by omega, .inr (ih h)⟩
theorem cmpS_self (s : List UInt8) : cmpS s s = 0 := by simp [cmpS, less_self]
theorem cmpS_zero {s t : List UInt8} : cmpS s t = 0 ↔ s = t := by
  constructor
  · intro h
    rcases less_trich s t with h1 | h1 | h1
    · exact h1
    · simp [cmpS, h1] at h
    · have := less_asymm h1; simp [cmpS, h1, this] at h
  · rintro rfl; exact cmpS_self s
theorem cmpS_neg {s t : List UInt8} : cmpS s t < 0 ↔ less s t = true := by
  unfold cmpS
  by_cases h : less s t = true
  · simp [h]
  · have h' : less s t = false := by simpa using h
    simp only [h']
    by_cases h2 : less t s = true <;> simp [h2]
/-- the bytes of an entry -/
def put (v : Int) (s : List UInt8) : List UInt8 := enc v ++ s
theorem put_less {v w : Int} (hv : In v) (hw : In w) (s t : List UInt8) : less (put v s) (put w t) = decide (cmpE v s w t < 0) := by
  unfold put
  rw [less_append _ _ _ _ (by rw [enc_length, enc_length]), less_enc hv hw, Bool.eq_iff_iff]
  simp only [Bool.or_eq_true, decide_eq_true_eq, Bool.and_eq_true, beq_iff_eq]
  unfold cmpE
  by_cases h1 : v < w
  · simp [h1]
  · by_cases h2 : w < v
    · have : ¬ enc v = enc w := fun e => by have := enc_inj hv hw e; omega
      simp [h1, h2, this]
    · have : v = w := by omega
      subst this
      simp [cmpS_neg]
theorem put_inj {v w : Int} (hv : In v) (hw : In w) (s t : List UInt8) : put v s = put w t ↔ v = w ∧ s = t := by
  constructor
  · intro h
    have h1 := List.append_inj h (by rw [enc_length, enc_length])
    exact ⟨enc_inj hv hw h1.1, h1.2⟩
  · rintro ⟨rfl, rfl⟩; rfl
theorem cmpE_zero {v w : Int} {s t : List UInt8} : cmpE v s w t = 0 ↔ v = w ∧ s = t := by
  unfold cmpE
  by_cases h1 : v < w
  · simp [h1]; omega
  · by_cases h2 : w < v
    · simp [h1, h2]; omega
    · have : v = w := by omega
      subst this
      simp [cmpS_zero]
theorem cmpE_swap (v : Int) (s : List UInt8) (w : Int) (t : List UInt8) : cmpE w t v s = - cmpE v s w t := by
  have hS : cmpS t s = - cmpS s t := by
    unfold cmpS
    by_cases h : less s t = true
    · have := less_asymm h; simp [h, this]
    · by_cases h2 : less t s = true <;> simp [h, h2]
  unfold cmpE
  by_cases h1 : v < w
  · have : ¬ w < v := by omega
    simp [h1, this]
  · by_cases h2 : w < v
    · simp [h1, h2]
    · simp [h1, h2, hS]
theorem cmpE_range (v : Int) (s : List UInt8) (w : Int) (t : List UInt8) : cmpE v s w t = -1 ∨ cmpE v s w t = 0 ∨ cmpE v s w t = 1 := by
  unfold cmpE cmpS
  (repeat' split) <;> simp
end Ky
end Go.Proofs.Ytapjdcofnigjhaa
