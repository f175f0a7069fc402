/- The walks of package sum and of its reference: what each function computes. -/
import Derived.Test.YtfpbgfhifbgokaaDoorProg
import Derived.Test.YtfpbgfhifbgokaaDoorKit
import Derived.Test.YtfpbgfhifbgokaaDoorCrc
import Derived.Deep.QuietTactic
import Derived.BigQuiet
namespace Go.Proofs.YtfpbgfhifbgokaaDoor
open Go.RowKit

/-- The table's cells. -/
def Tab (w : World) : Prop := ∀ i, i < 16 → w.cell? ⟨0, i, none⟩ = some (.int .u32 (Crc.nib i))

theorem and15 (m : Nat) (h : m < 4294967296) : bits .and .u32 (m : Int) 15 = ((m % 16 : Nat) : Int) := by
  have := u32_and_nat m 15 h (by decide)
  rw [nat_mask4] at this
  exact this
theorem xor16 (m n : Nat) (h : m < 4294967296) (hn : n < 4294967296) : bits .xor .u32 ((m : Int) / 16) (n : Int) = ((m / 16 ^^^ n : Nat) : Int) :=
  u32_xor_nat (m / 16) n (by omega) hn
theorem turn_snoc (r : Nat) (bs : List UInt8) (k : Nat) (x : UInt8) (h : bs[k]? = some x) : Crc.turn r (bs.take (k + 1)) = Crc.byte (Crc.turn r (bs.take k)) x.toNat := by
  rw [List.take_add_one, h, Option.toList_some, Crc.turn_append]
  rfl

set_option maxRecDepth 100000 in
set_option maxHeartbeats 400000 in
theorem turn_any (r : Nat) (hr : r < 4294967296) (a : Option Addr) (c : Nat) (bs : List UInt8) (w : World) (hrd : RdB w a c bs) (htab : Tab w) :
    Calls Tryd.prog 18 #[.int .u32 r, .slice a bs.length c] w fun e w' => e = .returned (.int .u32 (Crc.turn r bs)) ∧ w = w' := by
  have hle := hrd.le
  unfold maxLen at hle
  have Hcell : Hid (∀ k x, bs[k]? = some x → ∃ b o, a = some ⟨b, o, none⟩ ∧ w.cell? ⟨b, o + k, none⟩ = some (.int .u8 x.toNat)) := Lib.hid hrd.at
  have Htab := Lib.hid htab
  clear htab hrd
  go_enter Tryd.func18, Tryd.ntmps18
  go_wp2
  go_step3
  go_wp2
  go_step3
  go_wp2
  go_loop [0, 10] (fun t i => ∃ k : Nat, k ≤ bs.length ∧ i = .int .i64 k ∧ t = .int .u32 (Crc.turn r (bs.take k))) (fun _ i => bs.length - (intOf i).toNat)
  case atStart => exact ⟨0, Nat.zero_le _, rfl, rfl⟩
  case round =>
    obtain ⟨k, hk, rfl, rfl⟩ := hrel
    by_cases hlt : k < bs.length
    · obtain ⟨x, hx⟩ : ∃ x, bs[k]? = some x := ⟨_, List.getElem?_eq_getElem hlt⟩
      have Hsn := Lib.hid (turn_snoc r bs k x hx)
      obtain ⟨b, o, rfl, hc⟩ := Hcell.out k x hx
      have hq := Crc.turn_lt hr (bs.take k)
      have hxl := Crc.u8_lt x
      clear hx
      generalize Crc.turn r (bs.take k) = q at *
      obtain ⟨m0, h0, hm0, H0⟩ : ∃ m : Nat, bits .xor .u32 (q : Int) (x.toNat : Int) = (m : Int) ∧ m < 4294967296 ∧ Hid (m = q ^^^ x.toNat) :=
        ⟨_, u32_xor_nat _ _ hq (by omega), Crc.xor_lt hq (by omega), Lib.hid rfl⟩
      obtain ⟨i0, g0, hi0, G0⟩ : ∃ i : Nat, bits .and .u32 (m0 : Int) 15 = (i : Int) ∧ i < 16 ∧ Hid (i = m0 % 16) :=
        ⟨_, and15 m0 hm0, Nat.mod_lt _ (by decide), Lib.hid rfl⟩
      obtain ⟨n0, c0, hn0, C0⟩ : ∃ n : Nat, w.cell? ⟨0, i0, none⟩ = some (.int .u32 (n : Int)) ∧ n < 4294967296 ∧ Hid (n = Crc.nib i0) := ⟨_, Htab.out i0 hi0, Crc.nib_lt _, Lib.hid rfl⟩
      obtain ⟨m1, h1, hm1, H1⟩ : ∃ m : Nat, bits .xor .u32 ((m0 : Int) / 16) (n0 : Int) = (m : Int) ∧ m < 4294967296 ∧ Hid (m = m0 / 16 ^^^ n0) :=
        ⟨_, xor16 _ _ hm0 hn0, Crc.xor_lt (by omega) hn0, Lib.hid rfl⟩
      obtain ⟨i1, g1, hi1, G1⟩ : ∃ i : Nat, bits .and .u32 (m1 : Int) 15 = (i : Int) ∧ i < 16 ∧ Hid (i = m1 % 16) :=
        ⟨_, and15 m1 hm1, Nat.mod_lt _ (by decide), Lib.hid rfl⟩
      obtain ⟨n1, c1, hn1, C1⟩ : ∃ n : Nat, w.cell? ⟨0, i1, none⟩ = some (.int .u32 (n : Int)) ∧ n < 4294967296 ∧ Hid (n = Crc.nib i1) := ⟨_, Htab.out i1 hi1, Crc.nib_lt _, Lib.hid rfl⟩
      obtain ⟨m2, h2, hm2, H2⟩ : ∃ m : Nat, bits .xor .u32 ((m1 : Int) / 16) (n1 : Int) = (m : Int) ∧ m < 4294967296 ∧ Hid (m = m1 / 16 ^^^ n1) :=
        ⟨_, xor16 _ _ hm1 hn1, Crc.xor_lt (by omega) hn1, Lib.hid rfl⟩
      have Hfin : Hid (Crc.turn r (List.take (k + 1) bs) = m2) := by
        refine Lib.hid ?_
        rw [Hsn.out, H2.out, C1.out, G1.out, H1.out, C0.out, G0.out, H0.out]
        rfl
      go_wp2
      refine wp_loop_rounds 3 ?_
      rw [rounds_succ]
      go_wp2
      rw [rounds_succ]
      go_wp2
      rw [rounds_succ]
      go_wp2
      go_round
      case rel => exact ⟨k + 1, by omega, by go_num, by rw [Hfin.out]⟩
      case measure => simp [intOf]; omega
    · have hkk : k = bs.length := by omega
      subst hkk
      go_wp2
      go_ret
      exact ⟨rfl, rfl⟩

theorem turn_int (r : Int) (h0 : 0 ≤ r) (h1 : r ≤ 4294967295) (a : Option Addr) (c : Nat) (bs : List UInt8) (w : World) (hrd : RdB w a c bs) (htab : Tab w) :
    Calls Tryd.prog 18 #[.int .u32 r, .slice a bs.length c] w fun e w' => e = .returned (.int .u32 (Crc.turn r.toNat bs)) ∧ w = w' := by
  obtain ⟨n, rfl⟩ := Int.eq_ofNat_of_zero_le h0
  exact turn_any n (by omega) a c bs w hrd htab


theorem not32 (t : Nat) (h : t < 4294967296) : bits .xor .u32 IntKind.u32.max (t : Int) = ((4294967295 - t : Nat) : Int) := by
  have e : IntKind.u32.max = ((4294967295 : Nat) : Int) := by decide
  rw [e, u32_xor_nat _ _ (by decide) h, Nat.xor_comm, ← Crc.compl t h]
theorem toNat_max : (4294967295 : Int).toNat = 4294967295 := by decide

set_option maxHeartbeats 400000 in
theorem sum_any (a : Option Addr) (c : Nat) (bs : List UInt8) (w : World) (hrd : RdB w a c bs) (htab : Tab w) :
    Calls Tryd.prog 11 #[.slice a bs.length c] w fun e w' => e = .returned (.int .i64 (Crc.sum 0 bs)) ∧ w = w' := by
  have H := Lib.hid hrd
  have HT := Lib.hid htab
  clear hrd htab
  obtain ⟨s, hs, hle, Hs⟩ : ∃ s : Nat, bits .xor .u32 IntKind.u32.max (Crc.turn 4294967295 bs : Int) = (s : Int) ∧ s ≤ 4294967295 ∧ Hid (s = Crc.sum 0 bs) :=
    ⟨_, not32 _ (Crc.turn_lt (by decide) bs), by omega, Lib.hid rfl⟩
  have hsg : IntKind.u32.signed = false := rfl
  go_enter Tryd.func11, Tryd.ntmps11
  go_wp2_with (go_at_call 18; refine (turn_int _ (by omega) (by omega) _ _ _ _ H.out HT.out).mono ?_; rintro e w' ⟨rfl, rfl⟩)
  go_ret
  exact ⟨by rw [← Hs.out]; rfl, rfl⟩

theorem sum_bd (n : Nat) (bs : List UInt8) : Crc.sum n bs ≤ 4294967295 := Crc.sum_le n bs

set_option maxHeartbeats 400000 in
theorem more_any (n : Nat) (hn : n ≤ 4294967295) (a : Option Addr) (c : Nat) (bs : List UInt8) (w : World) (hrd : RdB w a c bs) (htab : Tab w) :
    Calls Tryd.prog 13 #[.int .i64 n, .slice a bs.length c] w fun e w' => e = .returned (.tuple #[.int .i64 (Crc.sum n bs), .int .i64 0]) ∧ w = w' := by
  have H := Lib.hid hrd
  have HT := Lib.hid htab
  clear hrd htab
  obtain ⟨m, hm, hml, Hm⟩ : ∃ s : Nat, bits .xor .u32 IntKind.u32.max (n : Int) = (s : Int) ∧ s ≤ 4294967295 ∧ Hid (s = 4294967295 - n) :=
    ⟨_, not32 _ (by omega), by omega, Lib.hid rfl⟩
  obtain ⟨s, hs, hle, Hs⟩ : ∃ s : Nat, bits .xor .u32 IntKind.u32.max (Crc.turn m bs : Int) = (s : Int) ∧ s ≤ 4294967295 ∧ Hid (s = Crc.sum n bs) :=
    ⟨_, not32 _ (Crc.turn_lt (by omega) bs), by omega, Lib.hid (by rw [Hm.out]; rfl)⟩
  have hsg : IntKind.u32.signed = false := rfl
  have d1 : ¬ (n : Int) < 0 := by omega
  have d2 : ¬ (4294967295 : Int) < (n : Int) := by omega
  go_enter Tryd.func13, Tryd.ntmps13
  go_wp2_with (go_at_call 18; refine (turn_int _ (by omega) (by omega) _ _ _ _ H.out HT.out).mono ?_; rintro e w' ⟨rfl, rfl⟩)
  go_ret2
  exact ⟨by rw [← Hs.out]; rfl, rfl⟩

set_option maxRecDepth 100000 in
set_option maxHeartbeats 400000 in
theorem bytes_any (a : Option Addr) (c : Nat) (xs : List UInt8) (b : Option Addr) (d : Nat) (ys : List UInt8) (w : World) (hx : RdB w a c xs) (hy : RdB w b d ys) :
    Calls Tryd.prog 15 #[.slice a xs.length c, .slice b ys.length d] w fun e w' => e = .returned (.bool (decide (xs = ys))) ∧ ∃ n, w' = w.drewN n := by
  have hle := hx.le
  unfold maxLen at hle
  by_cases hl : ys.length = xs.length
  · rw [hl]
    have Hx := Lib.hid hx.at
    have Hy := Lib.hid hy.at
    have HL := Lib.hid hl
    clear hx hy hl
    go_enter Tryd.func15, Tryd.ntmps15
    go_wp2
    go_loopw [5] (fun i wr => ∃ k nd : Nat, k ≤ xs.length ∧ i = .int .i64 k ∧ wr = w.drewN nd ∧ Hid (xs.take k = ys.take k)) (fun i _ => xs.length - (intOf i).toNat)
    case atStart => exact ⟨0, 0, Nat.zero_le _, rfl, rfl, Lib.hid rfl⟩
    case round =>
      obtain ⟨k, nd, hk, rfl, rfl, Heq⟩ := hrel
      by_cases hlt : k < xs.length
      · obtain ⟨x, hx⟩ : ∃ x, xs[k]? = some x := ⟨_, List.getElem?_eq_getElem hlt⟩
        obtain ⟨y, hy⟩ : ∃ y, ys[k]? = some y := ⟨_, List.getElem?_eq_getElem (by rw [HL.out]; exact hlt)⟩
        obtain ⟨b1, o1, rfl, hc1⟩ := Hx.out k x hx
        obtain ⟨b2, o2, rfl, hc2⟩ := Hy.out k y hy
        have Hx' := Lib.hid hx
        have Hy' := Lib.hid hy
        clear hx hy
        by_cases hxy : x = y
        · subst hxy
          have hd : (((x.toNat : Nat) : Int) != ((x.toNat : Nat) : Int)) = false := by simp
          go_wp2
          go_quiet (fail)
          go_wp2
          go_roundw
          case rel => exact ⟨k + 1, _, by omega, by go_num, rfl, Lib.hid (by rw [List.take_add_one, List.take_add_one, Heq.out, Hx'.out, Hy'.out])⟩
          case measure => simp [intOf]; omega
        · have hd : (x.toNat != y.toNat) = true := by
            rw [bne_iff_ne]; intro h; exact hxy (UInt8.toNat_inj.1 h)
          have hne : decide (xs = ys) = false := by
            rw [decide_eq_false_iff_not]; intro h
            have h1 := Hx'.out
            rw [h, Hy'.out] at h1
            exact hxy (Option.some.inj h1).symm
          have Hne := Lib.hid hne
          clear hne
          go_wp2
          go_quiet (fail)
          go_wp2
          go_ret
          exact ⟨by rw [Hne.out]; rfl, nd + nq, by rw [World.drewN_drewN]⟩
      · have hkk : k = xs.length := by omega
        have hall : decide (xs = ys) = true := by
          have h1 := Heq.out
          rw [List.take_of_length_le (by omega), List.take_of_length_le (by rw [HL.out]; omega)] at h1
          exact decide_eq_true h1
        have Hall := Lib.hid hall
        clear hall hkk
        go_wp2
        go_ret
        exact ⟨by rw [Hall.out]; rfl, _, rfl⟩
  · have hne : decide (xs = ys) = false := by
      rw [decide_eq_false_iff_not]; rintro rfl; exact hl rfl
    have hl' : ¬ xs.length = ys.length := fun h => hl h.symm
    rw [hne]
    clear hx hy hne
    go_enter Tryd.func15, Tryd.ntmps15
    go_wp2
    go_ret
    exact ⟨rfl, 0, rfl⟩

set_option maxRecDepth 100000 in
set_option maxHeartbeats 400000 in
theorem equal_any (a : Option Addr) (c : Nat) (xs : List UInt8) (b : Option Addr) (d : Nat) (ys : List UInt8) (w : World) (hx : RdB w a c xs) (hy : RdB w b d ys) :
    Calls Tryd.prog 20 #[.slice a xs.length c, .slice b ys.length d] w fun e w' => e = .returned (.bool (decide (xs = ys))) ∧ ∃ n, w' = w.drewN n := by
  have hle := hx.le
  unfold maxLen at hle
  by_cases hl : ys.length = xs.length
  · rw [hl]
    have Hx := Lib.hid hx.at
    have Hy := Lib.hid hy.at
    have HL := Lib.hid hl
    clear hx hy hl
    go_enter Tryd.func20, Tryd.ntmps20
    go_wp2
    go_loopw [13] (fun i wr => ∃ k nd : Nat, k ≤ xs.length ∧ i = .int .i64 k ∧ wr = w.drewN nd ∧ Hid (xs.take k = ys.take k)) (fun i _ => xs.length - (intOf i).toNat)
    case atStart => exact ⟨0, 0, Nat.zero_le _, rfl, rfl, Lib.hid rfl⟩
    case round =>
      obtain ⟨k, nd, hk, rfl, rfl, Heq⟩ := hrel
      by_cases hlt : k < xs.length
      · obtain ⟨x, hx⟩ : ∃ x, xs[k]? = some x := ⟨_, List.getElem?_eq_getElem hlt⟩
        obtain ⟨y, hy⟩ : ∃ y, ys[k]? = some y := ⟨_, List.getElem?_eq_getElem (by rw [HL.out]; exact hlt)⟩
        obtain ⟨b1, o1, rfl, hc1⟩ := Hx.out k x hx
        obtain ⟨b2, o2, rfl, hc2⟩ := Hy.out k y hy
        have Hx' := Lib.hid hx
        have Hy' := Lib.hid hy
        clear hx hy
        by_cases hxy : x = y
        · subst hxy
          have hd : (((x.toNat : Nat) : Int) != ((x.toNat : Nat) : Int)) = false := by simp
          go_wp2
          go_quiet (fail)
          go_wp2
          go_roundw
          case rel => exact ⟨k + 1, _, by omega, by go_num, rfl, Lib.hid (by rw [List.take_add_one, List.take_add_one, Heq.out, Hx'.out, Hy'.out])⟩
          case measure => simp [intOf]; omega
        · have hd : (x.toNat != y.toNat) = true := by
            rw [bne_iff_ne]; intro h; exact hxy (UInt8.toNat_inj.1 h)
          have hne : decide (xs = ys) = false := by
            rw [decide_eq_false_iff_not]; intro h
            have h1 := Hx'.out
            rw [h, Hy'.out] at h1
            exact hxy (Option.some.inj h1).symm
          have Hne := Lib.hid hne
          clear hne
          go_wp2
          go_quiet (fail)
          go_wp2
          go_ret
          exact ⟨by rw [Hne.out]; rfl, nd + nq, by rw [World.drewN_drewN]⟩
      · have hkk : k = xs.length := by omega
        have hall : decide (xs = ys) = true := by
          have h1 := Heq.out
          rw [List.take_of_length_le (by omega), List.take_of_length_le (by rw [HL.out]; omega)] at h1
          exact decide_eq_true h1
        have Hall := Lib.hid hall
        clear hall hkk
        go_wp2
        go_ret
        exact ⟨by rw [Hall.out]; rfl, _, rfl⟩
  · have hne : decide (xs = ys) = false := by
      rw [decide_eq_false_iff_not]; rintro rfl; exact hl rfl
    have hl' : ¬ xs.length = ys.length := fun h => hl h.symm
    rw [hne]
    clear hx hy hne
    go_enter Tryd.func20, Tryd.ntmps20
    go_wp2
    go_ret
    exact ⟨rfl, 0, rfl⟩

theorem xor_step (c k : Nat) : c % 2 ^ (k + 1) = c % 2 ^ k + 2 ^ k * (c / 2 ^ k % 2) := Nat.mod_pow_succ
theorem xor_bit (a b k : Nat) : (a ^^^ b) / 2 ^ k % 2 = (a / 2 ^ k % 2 + b / 2 ^ k % 2) % 2 := by
  have h := Nat.shiftRight_xor_distrib (a := a) (b := b) (i := k)
  simp only [Nat.shiftRight_eq_div_pow] at h
  rw [h, Crc.xor_mod2]
  rcases Nat.mod_two_eq_zero_or_one (a / 2 ^ k) with h1 | h1 <;> rcases Nat.mod_two_eq_zero_or_one (b / 2 ^ k) with h2 | h2 <;> simp [h1, h2]
theorem div_zero (a k : Nat) (ha : a < 4294967296) (h : 32 ≤ k) : a / 2 ^ k = 0 := by
  refine Nat.div_eq_of_lt (Nat.lt_of_lt_of_le ha ?_)
  calc 4294967296 = 2 ^ 32 := by decide
    _ ≤ 2 ^ k := Nat.pow_le_pow_right (by decide) h

set_option maxRecDepth 100000 in
set_option maxHeartbeats 400000 in
theorem xor_any (a b : Nat) (ha : a < 4294967296) (hb : b < 4294967296) (w : World) :
    Calls Tryd.prog 19 #[.int .i64 a, .int .i64 b] w fun e w' => e = .returned (.int .i64 ((a ^^^ b : Nat) : Int)) ∧ w = w' := by
  go_enter Tryd.func19, Tryd.ntmps19
  go_wp2
  go_loop [0, 1, 5, 6] (fun s t o p => ∃ k x y q r : Nat, k ≤ 32 ∧ s = .int .i64 x ∧ t = .int .i64 y ∧ o = .int .i64 r ∧ p = .int .i64 q ∧ Hid (x = a / 2 ^ k ∧ y = b / 2 ^ k ∧ q = 2 ^ k ∧ r = (a ^^^ b) % 2 ^ k)) (fun s t _ _ => (intOf s + intOf t).toNat)
  case atStart => exact ⟨0, a, b, 1, 0, by omega, rfl, rfl, rfl, rfl, Lib.hid ⟨by simp, by simp, by simp, by simp [Nat.mod_one]⟩⟩
  case round =>
    obtain ⟨k, x, y, q, r, hk, rfl, rfl, rfl, rfl, H⟩ := hrel
    have hxl : x < 4294967296 := by
      have := H.out.1; have := Nat.div_le_self a (2 ^ k); omega
    have hyl : y < 4294967296 := by
      have := H.out.2.1; have := Nat.div_le_self b (2 ^ k); omega
    have hql : q ≤ 4294967296 := by
      have h1 := H.out.2.2.1
      have : 2 ^ k ≤ 2 ^ 32 := Nat.pow_le_pow_right (by decide) hk
      omega
    have hrl : r < 4294967296 := by
      have h1 := H.out.2.2.2
      have := Crc.xor_lt ha hb
      have := Nat.mod_le (a ^^^ b) (2 ^ k)
      omega
    have step : ∀ r', r' = r + q * ((x % 2 + y % 2) % 2) → 0 < x ∨ 0 < y → Hid (k + 1 ≤ 32 ∧ x / 2 = a / 2 ^ (k + 1) ∧ y / 2 = b / 2 ^ (k + 1) ∧ q * 2 = 2 ^ (k + 1) ∧ r' = (a ^^^ b) % 2 ^ (k + 1)) := by
      intro r' hr' hp
      obtain ⟨hx, hy, hq, hr⟩ := H.out
      refine Lib.hid ⟨?_, ?_, ?_, ?_, ?_⟩
      · rcases Nat.lt_or_ge k 32 with h | h
        · omega
        · have h1 := div_zero a k ha h; have h2 := div_zero b k hb h; omega
      · rw [hx, Nat.div_div_eq_div_mul]; rfl
      · rw [hy, Nat.div_div_eq_div_mul]; rfl
      · rw [hq]; rfl
      · rw [hr', xor_step, xor_bit, hr, hx, hy, hq]
    by_cases hp : 0 < x ∨ 0 < y
    · by_cases hbit : x % 2 = y % 2
      · have st := step r (by rw [hbit]; have : (y % 2 + y % 2) % 2 = 0 := by omega
                              rw [this]; simp) hp
        have hd : ((x : Int) % 2 != (y : Int) % 2) = false := by
          rw [bne_eq_false_iff_eq]; omega
        clear step hbit
        by_cases hx0 : 0 < x
        · go_wp2
          go_round
          case rel => exact ⟨k + 1, x / 2, y / 2, q * 2, r, st.out.1, by go_num, by go_num, rfl, by go_num, Lib.hid st.out.2⟩
          case measure => simp [intOf]; omega
        · obtain rfl : x = 0 := by omega
          have hy0 : 0 < y := by omega
          go_wp2
          go_round
          case rel => exact ⟨k + 1, 0 / 2, y / 2, q * 2, r, st.out.1, by go_num, by go_num, rfl, by go_num, Lib.hid st.out.2⟩
          case measure => simp [intOf]; omega
      · have st := step (r + q) (by have : (x % 2 + y % 2) % 2 = 1 := by omega
                                    rw [this]; omega) hp
        have hd : ((x : Int) % 2 != (y : Int) % 2) = true := by
          rw [bne_iff_ne]; omega
        clear step hbit
        by_cases hx0 : 0 < x
        · go_wp2
          go_round
          case rel => exact ⟨k + 1, x / 2, y / 2, q * 2, r + q, st.out.1, by go_num, by go_num, by go_num, by go_num, Lib.hid st.out.2⟩
          case measure => simp [intOf]; omega
        · obtain rfl : x = 0 := by omega
          have hy0 : 0 < y := by omega
          go_wp2
          go_round
          case rel => exact ⟨k + 1, 0 / 2, y / 2, q * 2, r + q, st.out.1, by go_num, by go_num, by go_num, by go_num, Lib.hid st.out.2⟩
          case measure => simp [intOf]; omega
    · obtain rfl : x = 0 := by omega
      obtain rfl : y = 0 := by omega
      have hfin : Hid (r = a ^^^ b) := by
        refine Lib.hid ?_
        obtain ⟨hx, hy, hq, hr⟩ := H.out
        have h1 := Nat.div_eq_zero_iff.1 hx.symm
        have h2 := Nat.div_eq_zero_iff.1 hy.symm
        have hp2 : 0 < 2 ^ k := Nat.two_pow_pos k
        rw [hr, Nat.mod_eq_of_lt (Nat.xor_lt_two_pow (by omega) (by omega))]
      clear step
      go_wp2
      go_ret
      exact ⟨by rw [hfin.out]; rfl, rfl⟩

set_option maxRecDepth 100000 in
set_option maxHeartbeats 400000 in
theorem refSum_any (n : Nat) (hn : n ≤ 4294967295) (a : Option Addr) (c : Nat) (bs : List UInt8) (w : World) (hrd : RdB w a c bs) :
    Calls Tryd.prog 12 #[.int .i64 n, .slice a bs.length c] w fun e w' => e = .returned (.int .i64 (Crc.sum n bs)) ∧ w = w' := by
  have hle := hrd.le
  unfold maxLen at hle
  have Hcell := Lib.hid hrd.at
  obtain ⟨m, hm, Hm⟩ : ∃ m : Nat, m < 4294967296 ∧ Hid (m = 4294967295 - n) := ⟨4294967295 - n, by omega, Lib.hid rfl⟩
  clear hrd
  go_enter Tryd.func12, Tryd.ntmps12
  go_wp2
  go_loop [5, 6] (fun t i => ∃ k q : Nat, k ≤ bs.length ∧ i = .int .i64 k ∧ t = .int .i64 q ∧ q < 4294967296 ∧ Hid (q = Crc.turn m (bs.take k))) (fun _ i => bs.length - (intOf i).toNat)
  case atStart => exact ⟨0, m, Nat.zero_le _, rfl, by have := Hm.out; congr 1; omega, hm, Lib.hid rfl⟩
  case round =>
    obtain ⟨k, q, hk, rfl, rfl, hq, Hq⟩ := hrel
    by_cases hlt : k < bs.length
    · obtain ⟨x, hx⟩ : ∃ x, bs[k]? = some x := ⟨_, List.getElem?_eq_getElem hlt⟩
      have Hsn := Lib.hid (turn_snoc m bs k x hx)
      obtain ⟨b, o, rfl, hc⟩ := Hcell.out k x hx
      have hxl := Crc.u8_lt x
      clear hx
      go_wp2_with (go_at_call 19; refine (xor_any _ _ hq (by omega) _).mono ?_; rintro e w' ⟨rfl, rfl⟩)
      go_loop [5, 7] (fun t i => ∃ j p : Nat, j ≤ 8 ∧ i = .int .i64 j ∧ t = .int .i64 p ∧ p < 4294967296 ∧ Hid (p = Crc.bitsN j (q ^^^ x.toNat))) (fun _ i => 8 - (intOf i).toNat)
      case atStart => exact ⟨0, q ^^^ x.toNat, by omega, rfl, rfl, Crc.xor_lt hq (by omega), Lib.hid rfl⟩
      case round =>
        obtain ⟨j, p, hj, rfl, rfl, hp, Hp⟩ := hrel
        by_cases hj8 : j < 8
        · by_cases hbit : p % 2 = 1
          · have hd : ((p : Int) % 2 == 1) = true := by rw [beq_iff_eq]; omega
            have Hb : Hid (p / 2 ^^^ 3988292384 = Crc.bitsN (j + 1) (q ^^^ x.toNat)) := by
              refine Lib.hid ?_
              show _ = Crc.bit _
              rw [← Hp.out]; unfold Crc.bit; rw [if_pos hbit]
            clear hbit
            go_wp2_with (go_at_call 19; refine (xor_any (p / 2) 3988292384 (by omega) (by omega) _).mono ?_; rintro e w' ⟨rfl, rfl⟩)
            go_round
            case rel => exact ⟨j + 1, p / 2 ^^^ 3988292384, by omega, by go_num, rfl, Crc.xor_lt (by omega) (by omega), Hb⟩
            case measure => simp [intOf]; omega
          · have hd : ((p : Int) % 2 == 1) = false := by rw [beq_eq_false_iff_ne]; omega
            have Hb : Hid (p / 2 = Crc.bitsN (j + 1) (q ^^^ x.toNat)) := by
              refine Lib.hid ?_
              show _ = Crc.bit _
              rw [← Hp.out]; unfold Crc.bit; rw [if_neg hbit]
            clear hbit
            go_wp2
            go_round
            case rel => exact ⟨j + 1, p / 2, by omega, by go_num, by go_num, by omega, Hb⟩
            case measure => simp [intOf]; omega
        · obtain rfl : j = 8 := by omega
          have Hf : Hid (p = Crc.turn m (bs.take (k + 1))) := by
            refine Lib.hid ?_
            rw [Hsn.out, ← Hq.out, Hp.out, Crc.bits8]; rfl
          go_wp2
          go_round
          case rel => exact ⟨k + 1, p, by omega, by go_num, rfl, hp, Hf⟩
          case measure => simp [intOf]; omega
    · have hkk : k = bs.length := by omega
      have Hf : Hid (4294967295 - (q : Int) = (Crc.sum n bs : Int)) := by
        refine Lib.hid ?_
        have h1 := Hq.out
        rw [hkk, List.take_of_length_le (Nat.le_refl _), Hm.out] at h1
        unfold Crc.sum
        omega
      clear hkk
      go_wp2
      go_ret
      exact ⟨by rw [← Hf.out]; rfl, rfl⟩
end Go.Proofs.YtfpbgfhifbgokaaDoor
