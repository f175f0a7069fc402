/- The check sum, in plain numbers: what the program computes by half bytes, what the reference computes bit by bit; it is linear, and finds bursts. No program in sight. -/
namespace Go.Proofs.YtfpbgfhifbgokaaDoor
namespace Crc
def nibs : List Nat := [0, 498536548, 997073096, 651767980, 1994146192, 1802195444, 1303535960, 1342533948, 3988292384, 4027552580, 3604390888, 3412177804, 2607071920, 2262029012, 2685067896, 3183342108]
def nib (i : Nat) : Nat := nibs.getD i 0
def half (r : Nat) : Nat := (r / 16) ^^^ nib (r % 16)
def byte (r b : Nat) : Nat := half (half (r ^^^ b))
def turn (r : Nat) : List UInt8 → Nat
  | [] => r
  | b :: bs => turn (byte r b.toNat) bs
def sum (s : Nat) (bs : List UInt8) : Nat := 4294967295 - turn (4294967295 - s) bs
/-- one bit of the reference -/
def bit (r : Nat) : Nat := if r % 2 = 1 then (r / 2) ^^^ 3988292384 else r / 2

theorem xor_div16 (a b : Nat) : (a ^^^ b) / 16 = a / 16 ^^^ b / 16 := by
  have := Nat.shiftRight_xor_distrib (a := a) (b := b) (i := 4)
  simpa [Nat.shiftRight_eq_div_pow] using this
theorem xor_mod16 (a b : Nat) : (a ^^^ b) % 16 = a % 16 ^^^ b % 16 := by
  exact Nat.xor_mod_two_pow (n := 4)
theorem xor_div2 (a b : Nat) : (a ^^^ b) / 2 = a / 2 ^^^ b / 2 := by
  have := Nat.shiftRight_xor_distrib (a := a) (b := b) (i := 1)
  simpa [Nat.shiftRight_eq_div_pow] using this
theorem xor_mod2 (a b : Nat) : (a ^^^ b) % 2 = a % 2 ^^^ b % 2 := by
  exact Nat.xor_mod_two_pow (n := 1)
theorem nib_xor (i j : Nat) (hi : i < 16) (hj : j < 16) : nib (i ^^^ j) = nib i ^^^ nib j := by
  have : ∀ i : Fin 16, ∀ j : Fin 16, nib (i.val ^^^ j.val) = nib i.val ^^^ nib j.val := by decide
  exact this ⟨i, hi⟩ ⟨j, hj⟩
theorem half_xor (a b : Nat) : half (a ^^^ b) = half a ^^^ half b := by
  unfold half
  rw [xor_div16, xor_mod16, nib_xor _ _ (Nat.mod_lt _ (by decide)) (Nat.mod_lt _ (by decide))]
  ac_rfl
theorem split16 (r : Nat) : r = (16 * (r / 16)) ^^^ (r % 16) := by
  have h1 := xor_div16 (16 * (r / 16)) (r % 16)
  have h2 := xor_mod16 (16 * (r / 16)) (r % 16)
  have e1 : 16 * (r / 16) / 16 = r / 16 := by omega
  have e2 : r % 16 / 16 = 0 := by omega
  have e3 : 16 * (r / 16) % 16 = 0 := by omega
  have e4 : r % 16 % 16 = r % 16 := by omega
  rw [e1, e2, Nat.xor_zero] at h1
  rw [e3, e4, Nat.zero_xor] at h2
  omega
theorem bit_eq (r : Nat) : bit r = r / 2 ^^^ (3988292384 * (r % 2)) := by
  unfold bit
  rcases Nat.mod_two_eq_zero_or_one r with h | h <;> simp [h]
theorem bit_xor (a b : Nat) : bit (a ^^^ b) = bit a ^^^ bit b := by
  simp only [bit_eq, xor_div2, xor_mod2]
  rcases Nat.mod_two_eq_zero_or_one a with h | h <;> rcases Nat.mod_two_eq_zero_or_one b with k | k <;> simp only [h, k, Nat.reduceXor, Nat.mul_zero, Nat.mul_one, Nat.xor_zero] <;> first | rfl | ac_rfl | skip
  rw [show a / 2 ^^^ 3988292384 ^^^ (b / 2 ^^^ 3988292384) = (a / 2 ^^^ b / 2) ^^^ (3988292384 ^^^ 3988292384) by ac_rfl, Nat.xor_self, Nat.xor_zero]
theorem bit_even (x : Nat) : bit (2 * x) = x := by simp [bit_eq]
def bit4 (r : Nat) : Nat := bit (bit (bit (bit r)))
theorem bit4_eq (r : Nat) : bit4 r = half r := by
  have hm : ∀ m : Fin 16, bit4 m.val = nib m.val := by decide
  have e16 : bit4 (16 * (r / 16)) = r / 16 := by
    unfold bit4
    rw [show 16 * (r / 16) = 2 * (2 * (2 * (2 * (r / 16)))) by omega]
    simp only [bit_even]
  have hx : ∀ a b, bit4 (a ^^^ b) = bit4 a ^^^ bit4 b := fun a b => by simp only [bit4, bit_xor]
  have := hx (16 * (r / 16)) (r % 16)
  rw [← split16 r, e16, hm ⟨r % 16, Nat.mod_lt _ (by decide)⟩] at this
  exact this
theorem nib_lt (i : Nat) : nib i < 4294967296 := by
  have h : ∀ i : Fin 16, nib i.val < 4294967296 := by decide
  by_cases hi : i < 16
  · exact h ⟨i, hi⟩
  · unfold nib
    rw [List.getD_eq_getElem?_getD, List.getElem?_eq_none (by simp [nibs]; omega)]
    decide
theorem xor_lt {a b : Nat} (ha : a < 4294967296) (hb : b < 4294967296) : a ^^^ b < 4294967296 := Nat.xor_lt_two_pow (n := 32) ha hb
theorem half_lt {r : Nat} (h : r < 4294967296) : half r < 4294967296 := xor_lt (by omega) (nib_lt _)
theorem byte_lt {r b : Nat} (h : r < 4294967296) (hb : b < 256) : byte r b < 4294967296 := half_lt (half_lt (xor_lt h (by omega)))
theorem u8_lt (b : UInt8) : b.toNat < 256 := b.toNat_lt
theorem turn_lt {r : Nat} (h : r < 4294967296) (bs : List UInt8) : turn r bs < 4294967296 := by
  induction bs generalizing r with
  | nil => exact h
  | cons b bs ih => exact ih (byte_lt h (u8_lt b))
theorem turn_append (r : Nat) (a b : List UInt8) : turn r (a ++ b) = turn (turn r a) b := by
  induction a generalizing r with
  | nil => rfl
  | cons x a ih => exact ih _
theorem sum_le (s : Nat) (bs : List UInt8) : sum s bs ≤ 4294967295 := Nat.sub_le _ _
theorem sum_append (a b : List UInt8) : sum (sum 0 a) b = sum 0 (a ++ b) := by
  have h := turn_lt (show 4294967295 - 0 < 4294967296 by decide) a
  unfold sum
  rw [turn_append, show 4294967295 - (4294967295 - turn (4294967295 - 0) a) = turn (4294967295 - 0) a by omega]
/-- linear -/
theorem byte_xor (r s a b : Nat) : byte (r ^^^ s) (a ^^^ b) = byte r a ^^^ byte s b := by
  unfold byte
  rw [show (r ^^^ s) ^^^ (a ^^^ b) = (r ^^^ a) ^^^ (s ^^^ b) by ac_rfl, half_xor, half_xor]
def xors : List UInt8 → List UInt8 → List UInt8
  | a :: as, b :: bs => (a ^^^ b) :: xors as bs
  | _, _ => []
theorem turn_xors (r s : Nat) : ∀ (a b : List UInt8), a.length = b.length → turn (r ^^^ s) (xors a b) = turn r a ^^^ turn s b
  | [], [], _ => rfl
  | a :: as, b :: bs, h => by
    have hl : as.length = bs.length := by simpa using h
    show turn (byte (r ^^^ s) (a ^^^ b).toNat) (xors as bs) = _
    rw [UInt8.toNat_xor, byte_xor]
    exact turn_xors _ _ as bs hl
/-- a register that is not zero stays so -/
theorem half_zero {r : Nat} (hr : r < 4294967296) (h : half r = 0) : r = 0 := by
  unfold half at h
  have h1 : r / 16 = nib (r % 16) := by
    have := congrArg (· ^^^ nib (r % 16)) h
    simpa [Nat.xor_assoc] using this
  have hm : ∀ m : Fin 16, nib m.val < 268435456 → m.val = 0 := by decide
  have h3 := hm ⟨r % 16, Nat.mod_lt _ (by decide)⟩ (by show nib (r % 16) < _; omega)
  have h3' : r % 16 = 0 := h3
  rw [h3'] at h1
  have : nib 0 = 0 := rfl
  omega
end Crc
namespace Crc
theorem compl (x : Nat) (h : x < 4294967296) : 4294967295 - x = x ^^^ 4294967295 := by
  have h2 := BitVec.toNat_not (x := BitVec.ofNat 32 x)
  rw [← BitVec.xor_allOnes, BitVec.toNat_xor, BitVec.toNat_ofNat, BitVec.toNat_allOnes, Nat.mod_eq_of_lt (by simpa using h)] at h2
  simp at h2
  omega
theorem xors_length : ∀ (a b : List UInt8), a.length = b.length → (xors a b).length = a.length
  | [], [], _ => rfl
  | _ :: as, _ :: bs, h => by simp [xors, xors_length as bs (by simpa using h)]
theorem linear (a b c : List UInt8) (hb : b.length = a.length) (hc : c.length = a.length) :
    sum 0 (xors (xors a b) c) = sum 0 a ^^^ sum 0 b ^^^ sum 0 c := by
  have hM : (4294967295 : Nat) - 0 = (4294967295 ^^^ 4294967295) ^^^ 4294967295 := by decide
  have l1 : (xors a b).length = c.length := by rw [xors_length _ _ hb.symm, hc]
  unfold sum
  have t := turn_lt (show (4294967295 - 0 : Nat) < 4294967296 by decide)
  rw [compl _ (t _), compl _ (t _), compl _ (t _), compl _ (t _)]
  have e : turn (4294967295 - 0) (xors (xors a b) c) = turn (4294967295 - 0) a ^^^ turn (4294967295 - 0) b ^^^ turn (4294967295 - 0) c := by
    conv => lhs; rw [hM]
    rw [turn_xors _ _ _ _ l1, turn_xors _ _ _ _ hb.symm]
  rw [e]
  generalize turn (4294967295 - 0) a = x
  generalize turn (4294967295 - 0) b = y
  generalize turn (4294967295 - 0) c = z
  generalize (4294967295 : Nat) = m
  have h : m ^^^ m = 0 := Nat.xor_self m
  calc x ^^^ y ^^^ z ^^^ m = (x ^^^ y ^^^ z) ^^^ m ^^^ (m ^^^ m) := by rw [h, Nat.xor_zero]
    _ = _ := by ac_rfl
def S (r : Nat) : Nat := half (half r)
theorem S_xor (a b : Nat) : S (a ^^^ b) = S a ^^^ S b := by simp [S, half_xor]
theorem S_shift (x : Nat) : S (256 * x) = x := by
  have h0 : nib 0 = 0 := rfl
  unfold S half
  rw [show 256 * x / 16 = 16 * x by omega, show 256 * x % 16 = 0 by omega, h0, Nat.xor_zero, show 16 * x / 16 = x by omega, show 16 * x % 16 = 0 by omega, h0, Nat.xor_zero]
def pack : List UInt8 → Nat
  | [] => 0
  | b :: bs => b.toNat ^^^ 256 * pack bs
def Sk : Nat → Nat → Nat
  | 0, x => x
  | k + 1, x => Sk k (S x)
theorem turn_pack (r : Nat) (t : List UInt8) : turn r t = Sk t.length (r ^^^ pack t) := by
  induction t generalizing r with
  | nil => simp [turn, pack, Sk]
  | cons b bs ih =>
    show turn (byte r b.toNat) bs = Sk bs.length (S (r ^^^ (b.toNat ^^^ 256 * pack bs)))
    rw [ih, ← Nat.xor_assoc, S_xor, S_shift]
    rfl
theorem pack_zero (t : List UInt8) (h : pack t = 0) : ∀ b ∈ t, b = 0 := by
  induction t with
  | nil => intro b hb; cases hb
  | cons b bs ih =>
    have h1 : b.toNat = 256 * pack bs := by
      have := congrArg (· ^^^ (256 * pack bs)) h
      simpa [pack, Nat.xor_assoc] using this
    have hb := u8_lt b
    intro x hx
    rcases List.mem_cons.1 hx with rfl | hx
    · exact UInt8.toNat_inj.1 (by simp; omega)
    · exact ih (by omega) x hx
theorem pack_lt (t : List UInt8) : pack t < 256 ^ t.length := by
  induction t with
  | nil => simp [pack]
  | cons b bs ih =>
    have hb := u8_lt b
    have e : 256 ^ (b :: bs).length = 2 ^ (8 * (bs.length + 1)) := by
      rw [List.length_cons, show (256 : Nat) = 2 ^ 8 by rfl, ← Nat.pow_mul]
    have e2 : 256 ^ bs.length = 2 ^ (8 * bs.length) := by rw [show (256 : Nat) = 2 ^ 8 by rfl, ← Nat.pow_mul]
    have e3 : 2 ^ (8 * (bs.length + 1)) = 256 * 2 ^ (8 * bs.length) := by rw [Nat.mul_add, Nat.pow_add]; omega
    have hp : 0 < 2 ^ (8 * bs.length) := Nat.two_pow_pos _
    rw [e]
    unfold pack
    exact Nat.xor_lt_two_pow (by rw [e3]; omega) (by rw [e3]; omega)
theorem S_zero {r : Nat} (hr : r < 4294967296) (h : S r = 0) : r = 0 := half_zero hr (half_zero (half_lt hr) h)
theorem S_lt {r : Nat} (hr : r < 4294967296) : S r < 4294967296 := half_lt (half_lt hr)
theorem Sk_zero (k : Nat) {r : Nat} (hr : r < 4294967296) (h : Sk k r = 0) : r = 0 := by
  induction k generalizing r with
  | zero => exact h
  | succ k ih => exact S_zero hr (ih (S_lt hr) h)
def zeros (n : Nat) : List UInt8 := List.replicate n 0
theorem turn_zeros (n : Nat) (r : Nat) : turn r (zeros n) = Sk n r := by
  rw [turn_pack]
  have : pack (zeros n) = 0 := by
    induction n with
    | zero => rfl
    | succ n ih =>
      show (0 : UInt8).toNat ^^^ 256 * pack (zeros n) = 0
      rw [ih]; rfl
  rw [this, Nat.xor_zero]; simp [zeros]
theorem xors_zeros : ∀ (a : List UInt8), xors a (zeros a.length) = a
  | [] => rfl
  | x :: a => by
    show (x ^^^ 0) :: xors a (zeros a.length) = x :: a
    rw [xors_zeros a]; simp
theorem xors_append : ∀ (a b c d : List UInt8), a.length = b.length → xors (a ++ c) (b ++ d) = xors a b ++ xors c d
  | [], [], _, _, _ => rfl
  | x :: a, y :: b, c, d, h => by simp [xors, xors_append a b c d (by simpa using h)]
/-- BURSTS: up to four bytes, one behind the other, that are turned, turn the sum. -/
theorem burst (p m q t : List UInt8) (hl : t.length = m.length) (h4 : t.length ≤ 4) (hz : ∃ b ∈ t, b ≠ 0) :
    sum 0 (p ++ (xors m t ++ q)) ≠ sum 0 (p ++ (m ++ q)) := by
  intro h
  have hM : (4294967295 - 0 : Nat) < 4294967296 := by decide
  have h1 := turn_lt hM (p ++ (xors m t ++ q))
  have h2 := turn_lt hM (p ++ (m ++ q))
  have h3 : turn (4294967295 - 0) (p ++ (xors m t ++ q)) = turn (4294967295 - 0) (p ++ (m ++ q)) := by
    unfold sum at h; omega
  have e : p ++ (xors m t ++ q) = xors (p ++ (m ++ q)) (zeros p.length ++ (t ++ zeros q.length)) := by
    rw [xors_append _ _ _ _ (by simp [zeros]), xors_zeros, xors_append _ _ _ _ hl.symm, xors_zeros]
  have hx := turn_xors (4294967295 - 0) 0 (p ++ (m ++ q)) (zeros p.length ++ (t ++ zeros q.length)) (by simp [zeros, hl])
  rw [Nat.xor_zero, ← e, h3] at hx
  have h0 : turn 0 (zeros p.length ++ (t ++ zeros q.length)) = 0 := by
    have := congrArg (turn (4294967295 - 0) (p ++ (m ++ q)) ^^^ ·) hx
    simp only [Nat.xor_self, ← Nat.xor_assoc, Nat.zero_xor] at this
    exact this.symm
  rw [turn_append, turn_append, turn_zeros, turn_zeros] at h0
  have hs : ∀ n, Sk n 0 = 0 := by
    intro n
    induction n with
    | zero => rfl
    | succ n ih => exact ih
  rw [hs, turn_pack, Nat.zero_xor] at h0
  have hp := pack_lt t
  have hp4 : 256 ^ t.length ≤ 256 ^ 4 := Nat.pow_le_pow_right (by decide) h4
  have hp' : pack t < 4294967296 := by omega
  have hk : ∀ k r, r < 4294967296 → Sk k r < 4294967296 := by
    intro k
    induction k with
    | zero => intro r hr; exact hr
    | succ k ih => intro r hr; exact ih _ (S_lt hr)
  have hz0 := Sk_zero _ hp' (Sk_zero _ (hk _ _ hp') h0)
  obtain ⟨b, hb, hne⟩ := hz
  exact hne (pack_zero t hz0 b hb)
def four (n : Nat) : List UInt8 := [UInt8.ofNat n, UInt8.ofNat (n / 256), UInt8.ofNat (n / 65536), UInt8.ofNat (n / 16777216)]
theorem four_inj {m n : Nat} (hm : m < 4294967296) (hn : n < 4294967296) (h : four m = four n) : m = n := by
  simp only [four, List.cons.injEq] at h
  obtain ⟨h1, h2, h3, h4, _⟩ := h
  have e : ∀ a b : Nat, UInt8.ofNat a = UInt8.ofNat b → a % 256 = b % 256 := fun a b h => by
    have := congrArg UInt8.toNat h
    simpa using this
  have := e _ _ h1; have := e _ _ h2; have := e _ _ h3; have := e _ _ h4
  omega
/-- what Seal gives -/
def seal4 (bs : List UInt8) : List UInt8 := bs ++ four (sum 0 bs)
end Crc
namespace Crc
/-- so many bits of the reference -/
def bitsN : Nat → Nat → Nat
  | 0, r => r
  | n + 1, r => bit (bitsN n r)
theorem bits8 (r : Nat) : bitsN 8 r = half (half r) := by
  rw [← bit4_eq, ← bit4_eq]; rfl
theorem bit_lt {r : Nat} (h : r < 4294967296) : bit r < 4294967296 := by
  unfold bit
  split
  · exact xor_lt (by omega) (by decide)
  · omega
theorem bitsN_lt (n : Nat) {r : Nat} (h : r < 4294967296) : bitsN n r < 4294967296 := by
  induction n with
  | zero => exact h
  | succ n ih => exact bit_lt ih
end Crc
end Go.Proofs.YtfpbgfhifbgokaaDoor
