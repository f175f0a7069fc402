/- Package field: the reader: numbers. -/
import Derived.Test.YtapjdcofnigjhaaField3
namespace Go.Proofs.Ytapjdcofnigjhaa
open Go.RowKit
/-- What a reading function leaves, ahead of going back. -/
def InnerR (w : World) (g : Nat) (a : Option Addr) (c : Nat) (bs : List UInt8) (v : Value) (err : Int) (at2 : Nat) (e : Ending) (w' : World) : Prop :=
  e = .returned (.tuple #[v, .int .i64 err]) ∧ (∃ m, Rdr w' g a c bs m ∧ (err = 0 → m = at2)) ∧ Fr (atF g) w w'
/-- .. and behind it. -/
def OuterR (w : World) (g : Nat) (a : Option Addr) (c : Nat) (bs : List UInt8) (v : Value) (err : Int) (at2 : Nat) (e : Ending) (w' : World) : Prop :=
  e = .returned (.tuple #[v, .int .i64 err]) ∧ Rdr w' g a c bs at2 ∧ Fr (atF g) w w'
theorem back_any (g : Nat) (a : Option Addr) (c : Nat) (bs : List UInt8) (at_ m : Nat) (hle : at_ ≤ bs.length) (w : World) (h : Rdr w g a c bs m) :
    Calls Try.prog 51 #[.agg #[.pointer (some ⟨g, 0, none⟩), .int .i64 (at_ : Int)]] w fun e w' => e = .returned (.tuple #[]) ∧ Rdr w' g a c bs at_ ∧ Fr (atF g) w w' := by
  have H2 := Lib.hid (h.put (n := at_) (at_ : Int) rfl hle)
  have r1 := h.i
  have r2 := h.fz
  have r3 : g < w.heap.size := block_of_cell r1
  clear h
  go_enter Try.func51, Try.ntmps51
  go_wp2
  go_end0
  exact ⟨rfl, H2.out.1.later ((Below.refl _ _).alloc (Nat.le_refl _) _), H2.out.2.alloc _⟩
def uV : Option (Nat × Nat) → Int
  | none => 0
  | some q => if q.1 < 9223372036854775808 then (q.1 : Int) else 0
def uE : Option (Nat × Nat) → Int
  | none => 11
  | some q => if q.1 < 9223372036854775808 then 0 else 10
def iV : Option (Nat × Nat) → Int
  | none => 0
  | some q => Fd.zag q.1
def iE : Option (Nat × Nat) → Int
  | none => 11
  | some _ => 0
def adv : Option (Nat × Nat) → Nat
  | none => 0
  | some q => q.2
theorem u64_and1 (n : Int) : bits .and .u64 n 1 = n % 2 := by
  have h255 : (BitVec.ofInt 64 1).toNat = 2 ^ 1 - 1 := by decide
  have key : (BitVec.ofInt 64 n &&& BitVec.ofInt 64 1).toNat = (n % ((2 ^ 64 : Nat) : Int)).toNat % 2 ^ 1 := by
    rw [BitVec.toNat_and, BitVec.toNat_ofInt, h255, Nat.and_two_pow_sub_one_eq_mod]
  show IntKind.u64.wrap ((BitVec.ofInt 64 n &&& BitVec.ofInt 64 1).toNat : Nat) = n % 2
  rw [key, IntKind.wrap_u64]
  omega
section
variable (g : Nat) (a : Option Addr) (c : Nat) (bs : List UInt8) (at_ : Nat)
set_option maxRecDepth 100000 in
theorem unsigned_any (hl : bs.length ≤ 1000000) (w : World) (h : Rdr w g a c bs at_) (P : Option (Nat × Nat)) (hP : Fd.parse 0 (bs.drop at_) = P) :
    Calls Try.prog 47 #[.pointer (some ⟨g, 0, none⟩)] w (InnerR w g a c bs (.int .i64 (uV P)) (uE P) (at_ + adv P)) := by
  have hg := rGroups_any g a c bs at_ hl w h
  rw [hP] at hg
  have HG := Lib.hid hg
  clear hg h
  cases P with
  | none =>
    clear hP
    go_enter Try.func47, Try.ntmps47
    go_wp2_with (go_at_call 52; refine HG.out.mono ?_; rintro e w1 ⟨m, rfl, hr, hf⟩; have H1 := Lib.hid (And.intro hr hf); clear hr hf)
    go_ret2
    exact ⟨rfl, ⟨m, H1.out.1, fun h => by cases h⟩, H1.out.2⟩
  | some q =>
    obtain ⟨n, k⟩ := q
    obtain ⟨hn, _⟩ := Fd.parse_at hP
    clear hP
    by_cases hb : n < 9223372036854775808
    · have e1 : uV (some (n, k)) = n := if_pos hb
      have e2 : uE (some (n, k)) = 0 := if_pos hb
      rw [e1, e2]
      have hb' : (n : Int) ≤ 9223372036854775807 := by omega
      clear e1 e2 hb hn
      go_enter Try.func47, Try.ntmps47
      go_wp2_with (go_at_call 52; refine HG.out.mono ?_; rintro e w1 ⟨rfl, hr, hf⟩; have H1 := Lib.hid (And.intro hr hf); clear hr hf)
      go_ret2
      exact ⟨rfl, ⟨_, H1.out.1, fun _ => rfl⟩, H1.out.2⟩
    · have e1 : uV (some (n, k)) = 0 := if_neg hb
      have e2 : uE (some (n, k)) = 10 := if_neg hb
      rw [e1, e2]
      have hb' : (9223372036854775807 : Int) < (n : Int) := by omega
      clear e1 e2 hb hn
      go_enter Try.func47, Try.ntmps47
      go_wp2_with (go_at_call 52; refine HG.out.mono ?_; rintro e w1 ⟨rfl, hr, hf⟩; have H1 := Lib.hid (And.intro hr hf); clear hr hf)
      go_ret2
      exact ⟨rfl, ⟨_, H1.out.1, fun h => by cases h⟩, H1.out.2⟩
set_option maxRecDepth 100000 in
theorem signed_any (hl : bs.length ≤ 1000000) (w : World) (h : Rdr w g a c bs at_) (P : Option (Nat × Nat)) (hP : Fd.parse 0 (bs.drop at_) = P) :
    Calls Try.prog 48 #[.pointer (some ⟨g, 0, none⟩)] w (InnerR w g a c bs (.int .i64 (iV P)) (iE P) (at_ + adv P)) := by
  have hg := rGroups_any g a c bs at_ hl w h
  rw [hP] at hg
  have HG := Lib.hid hg
  clear hg h
  cases P with
  | none =>
    clear hP
    go_enter Try.func48, Try.ntmps48
    go_wp2_with (go_at_call 52; refine HG.out.mono ?_; rintro e w1 ⟨m, rfl, hr, hf⟩; have H1 := Lib.hid (And.intro hr hf); clear hr hf)
    go_ret2
    exact ⟨rfl, ⟨m, H1.out.1, fun h => by cases h⟩, H1.out.2⟩
  | some q =>
    obtain ⟨n, k⟩ := q
    obtain ⟨hn, _⟩ := Fd.parse_at hP
    have hand := u64_and1 (n : Int)
    have n0 : (0 : Int) ≤ (n : Int) := by omega
    have n1 : (n : Int) ≤ 18446744073709551615 := by omega
    clear hP
    by_cases hb : n % 2 = 1
    · have e1 : iV (some (n, k)) = -1 - (n : Int) / 2 := by show Fd.zag n = _; unfold Fd.zag; rw [if_pos hb]; omega
      have e2 : iE (some (n, k)) = 0 := rfl
      rw [e1, e2]
      have hb1 : ((n : Int) % 2 == 1) = true := by simp; omega
      have n2 : (n : Int) / 2 ≤ 9223372036854775807 := by omega
      have n3 : 0 ≤ (n : Int) / 2 := by omega
      clear e1 e2 hb hn
      go_enter Try.func48, Try.ntmps48
      go_wp2_with (go_at_call 52; refine HG.out.mono ?_; rintro e w1 ⟨rfl, hr, hf⟩; have H1 := Lib.hid (And.intro hr hf); clear hr hf)
      go_ret2
      exact ⟨rfl, ⟨_, H1.out.1, fun _ => rfl⟩, H1.out.2⟩
    · have e1 : iV (some (n, k)) = (n : Int) / 2 := by show Fd.zag n = _; unfold Fd.zag; rw [if_neg hb]; omega
      have e2 : iE (some (n, k)) = 0 := rfl
      rw [e1, e2]
      have hb1 : ((n : Int) % 2 == 1) = false := by simp; omega
      have n2 : (n : Int) / 2 ≤ 9223372036854775807 := by omega
      have n3 : 0 ≤ (n : Int) / 2 := by omega
      clear e1 e2 hb hn
      go_enter Try.func48, Try.ntmps48
      go_wp2_with (go_at_call 52; refine HG.out.mono ?_; rintro e w1 ⟨rfl, hr, hf⟩; have H1 := Lib.hid (And.intro hr hf); clear hr hf)
      go_ret2
      exact ⟨rfl, ⟨_, H1.out.1, fun _ => rfl⟩, H1.out.2⟩
end
end Go.Proofs.Ytapjdcofnigjhaa
