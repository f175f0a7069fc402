/- The walks of the laws of package sum (second part). -/
import Derived.Test.YtfpbgfhifbgokaaDoorSumLaws
namespace Go.Proofs.YtfpbgfhifbgokaaDoor
open Go.RowKit

theorem rdN {w : World} {a : Option Addr} {n c : Nat} {bs : List UInt8} (h : Rd w 1 a n c (bytesV bs)) : n = bs.length := by
  have := h.len
  simp [bytesV_length] at this
  exact this.symm
theorem sumN {a : Option Addr} {n c : Nat} {bs : List UInt8} {w : World} (h : Rd w 1 a n c (bytesV bs)) (ht : Tab w) :
    Calls Tryd.prog 11 #[.slice a n c] w fun e w' => e = .returned (.int .i64 (Crc.sum 0 bs)) ∧ w = w' := by
  obtain rfl := rdN h
  exact sum_any a c bs w h ht

theorem rdOwn {w : World} {base : Nat} {e : TypeId} {a : Option Addr} {n c : Nat} {bs : List UInt8} (h : w.ownsRow base e 1 (.slice a n c) n (bytesV bs)) : Rd w 1 a n c (bytesV bs) := by
  obtain ⟨a', c', h1, h2, _⟩ := Rd.ofOwn h (bytesV_one bs)
  cases h1
  exact h2

set_option maxRecDepth 100000 in
set_option maxHeartbeats 1000000 in
theorem parts_walk (a : Option Addr) (c : Nat) (xs : List UInt8) (b : Option Addr) (d : Nat) (ys : List UInt8) (w : World) (hx : RdB w a c xs) (hy : RdB w b d ys) (htab : Tab w) :
    Calls Tryd.prog 6 #[.slice a xs.length c, .slice b ys.length d] w (Yes w) := by
  have Hx := Lib.hid hx
  have Hy := Lib.hid hy
  have HT := Lib.hid htab
  clear hx hy htab
  by_cases hl : 300 < xs.length
  · go_enter Tryd.func6, Tryd.ntmps6
    go_wp2_with (go_at_call 10; refine (awake_any _ HT.out).mono ?_; rintro e w2 ⟨rfl, hb⟩)
    go_ret
    exact ⟨rfl, hb⟩
  by_cases hl2 : 300 < ys.length
  · go_enter Tryd.func6, Tryd.ntmps6
    go_wp2_with (go_at_call 10; refine (awake_any _ HT.out).mono ?_; rintro e w2 ⟨rfl, hb⟩)
    go_ret
    exact ⟨rfl, hb⟩
  obtain ⟨i0, hi, hz0, hz1, hz2⟩ := info_parts Tryd.infoByte
  obtain ⟨A, hA, HA⟩ : ∃ A : Nat, A ≤ 4294967295 ∧ Hid (A = Crc.sum 0 xs) := ⟨_, Crc.sum_le 0 xs, Lib.hid rfl⟩
  obtain ⟨S, hS, HS⟩ : ∃ S : Nat, S ≤ 4294967295 ∧ Hid (S = Crc.sum 0 (xs ++ ys)) := ⟨_, Crc.sum_le 0 _, Lib.hid rfl⟩
  have cA : ∀ W, Below w.heap.size w W → Calls Tryd.prog 11 #[.slice a xs.length c] W fun e w' => e = .returned (.int .i64 A) ∧ W = w' := fun W hb => by
    rw [HA.out]; exact sum_any _ _ _ _ (Hx.out.later hb) (HT.out.later hb)
  have cM : ∀ W, Below w.heap.size w W → Calls Tryd.prog 13 #[.int .i64 A, .slice b ys.length d] W fun e w' => e = .returned (.tuple #[.int .i64 S, .int .i64 0]) ∧ W = w' := fun W hb => by
    rw [HS.out, ← Crc.sum_append, ← HA.out]; exact more_any A hA _ _ _ _ (Hy.out.later hb) (HT.out.later hb)
  have cN : ∀ W, Below w.heap.size w W → Calls Tryd.prog 13 #[.int .i64 0, .slice a xs.length c] W fun e w' => e = .returned (.tuple #[.int .i64 A, .int .i64 0]) ∧ W = w' := fun W hb => by
    rw [HA.out]; exact more_any 0 (by decide) _ _ _ _ (Hx.out.later hb) (HT.out.later hb)
  have CA := Lib.hid cA
  have CM := Lib.hid cM
  have CN := Lib.hid cN
  clear cA cM cN
  have tok1 : True := trivial
  have tok2 : True := trivial
  go_enter Tryd.func6, Tryd.ntmps6
  go_wp2_with (first
    | (at_builtin; have _t := tok1; refine wpList_app rfl _ _ 22 rfl w.heap.size 5 i0 (.int .u8 0) 1 1 Tryd.underlying22 hi hz0 hz1 hz2 rfl (by decide) none 0 0 [] rfl (World.ownsRow_nil _ _ _ _) _ xs.length c (bytesV xs) rfl Hx.out (by unfold maxLen; omega) (by omega) (Nat.le_refl _) ?_; intro a1 c1 w1 hown1 hgrow1; clear tok1)
    | (at_builtin; have _t := tok2; simp only [Nat.zero_add, List.nil_append] at hown1; have hb1 := (Below.refl w.heap.size w).grown hgrow1 (Nat.le_refl _) (by simp [Value.ownBlock]); refine wpList_app rfl _ _ 22 rfl w.heap.size 5 i0 (.int .u8 0) 1 1 Tryd.underlying22 hi hz0 hz1 hz2 rfl (by decide) a1 xs.length c1 _ rfl hown1 _ ys.length d (bytesV ys) rfl (Hy.out.later hb1) (by unfold maxLen; omega) (by omega) hb1.size ?_; intro a2 c2 w2 hown2 hgrow2; clear tok2; have HB := Lib.hid (hb1.grown hgrow2 hb1.size (fun k hk => (hown1.lt k hk).1)); rw [← bytesV_append] at hown2; have HO := Lib.hid hown2; clear hown1 hown2 hgrow1 hgrow2 hb1)
    | (go_at_call 13; ((with_reducible refine (CM.out _ HB.out).mono ?_); rintro e w' ⟨rfl, rfl⟩))
    | (go_at_call 13; ((with_reducible refine (CN.out _ HB.out).mono ?_); rintro e w' ⟨rfl, rfl⟩))
    | (go_at_call 11; ((with_reducible refine (CA.out _ HB.out).mono ?_); rintro e w' ⟨rfl, rfl⟩))
    | (go_at_call 11; ((with_reducible refine (sumN (rdOwn HO.out) (HT.out.later HB.out)).mono ?_); rintro e w' ⟨rfl, rfl⟩; rw [← HS.out]))
    | (go_at_call 10; refine (awake_any _ (HT.out.later HB.out)).mono ?_; rintro e w5 ⟨rfl, hb⟩))
  go_ret
  exact ⟨rfl, HB.out.trans (hb.mono HB.out.size)⟩

theorem seal4_length (bs : List UInt8) : (Crc.seal4 bs).length = bs.length + 4 := by simp [Crc.seal4, Crc.four]
theorem body_seal4 (bs : List UInt8) : body (Crc.seal4 bs) = bs := by
  unfold body
  rw [seal4_length, Nat.add_sub_cancel, Crc.seal4, List.take_left]
/-- Open of what is sealed. -/
theorem openSealed {a : Option Addr} {n c : Nat} {bs : List UInt8} {w : World} (h : Rd w 1 a n c (bytesV (Crc.seal4 bs))) (ht : Tab w) (hl : bs.length ≤ 90000) :
    Calls Tryd.prog 17 #[.slice a n c] w fun e w' => ∃ a' c', e = .returned (.tuple #[.slice a' bs.length c', .int .i64 0]) ∧ RdB w' a' c' bs ∧ Below w.heap.size w w' := by
  obtain rfl := rdN h
  have h4 := seal4_length bs
  have := open_good a c (Crc.seal4 bs) w h ht (by omega) (by omega) (by rw [body_seal4])
  rwa [body_seal4] at this
/-- Seal, the length written out. -/
theorem sealN {a : Option Addr} {n c : Nat} {bs : List UInt8} {w : World} (h : Rd w 1 a n c (bytesV bs)) (ht : Tab w) (hl : bs.length ≤ 90000) :
    Calls Tryd.prog 16 #[.slice a n c] w fun e w' => ∃ a' c', e = .returned (.slice a' (bs.length + 4) c') ∧ Rd w' 1 a' (bs.length + 4) c' (bytesV (Crc.seal4 bs)) ∧ Below w.heap.size w w' := by
  obtain rfl := rdN h
  refine (seal_any a c bs w h ht (by omega)).mono fun e w' ⟨a', c', he, hr, hb⟩ => ?_
  unfold RdB at hr
  rw [seal4_length] at he hr
  exact ⟨a', c', he, hr, hb⟩
theorem bytesSame {a b : Option Addr} {n m c d : Nat} {bs : List UInt8} {w : World} (hx : Rd w 1 a n c (bytesV bs)) (hy : Rd w 1 b m d (bytesV bs)) :
    Calls Tryd.prog 15 #[.slice a n c, .slice b m d] w fun e w' => e = .returned (.bool true) ∧ Below w.heap.size w w' := by
  obtain rfl := rdN hx
  obtain rfl := rdN hy
  exact (bytes_any a c bs b d bs w hx hy).mono fun e w' ⟨he, k, hw⟩ => ⟨by simpa using he, by rw [hw]; exact below_drewN (Below.refl _ _) k⟩

set_option maxRecDepth 100000 in
set_option maxHeartbeats 1000000 in
theorem back_walk (a : Option Addr) (c : Nat) (xs : List UInt8) (w : World) (hx : RdB w a c xs) (htab : Tab w) :
    Calls Tryd.prog 8 #[.slice a xs.length c] w (Yes w) := by
  have Hx := Lib.hid hx
  have HT := Lib.hid htab
  clear hx htab
  by_cases hl : 300 < xs.length
  · go_enter Tryd.func8, Tryd.ntmps8
    go_wp2_with (go_at_call 10; refine (awake_any _ HT.out).mono ?_; rintro e w2 ⟨rfl, hb⟩)
    go_ret
    exact ⟨rfl, hb⟩
  have hd : ((xs.length : Int) + 4 != (xs.length : Int) + 4) = false := by simp
  have tok1 : True := trivial
  have tok2 : True := trivial
  have tok3 : True := trivial
  have tok4 : True := trivial
  have tok5 : True := trivial
  have tok6 : True := trivial
  go_enter Tryd.func8, Tryd.ntmps8
  go_wp2_with (first
    | (go_at_call 16; have _t := tok1; refine (sealN Hx.out HT.out (by omega)).mono ?_; rintro e w1 ⟨a1, c1, rfl, hr1, hb1⟩; clear tok1; have HR1 := Lib.hid hr1; have HB1 := Lib.hid hb1; clear hr1 hb1)
    | (go_at_call 17; have _t := tok2; refine (openSealed HR1.out (HT.out.later HB1.out) (by omega)).mono ?_; rintro e w2 ⟨a2, c2, rfl, hr2, hb2⟩; clear tok2; have HR2 := Lib.hid hr2; have HB2 := Lib.hid (HB1.out.trans (hb2.mono HB1.out.size)); have HR1' := Lib.hid (Rd.later HR1.out hb2); clear hr2 hb2)
    | (go_at_call 15; have _t := tok3; refine (bytesSame HR2.out (Rd.later Hx.out HB2.out)).mono ?_; rintro e w3 ⟨rfl, hb3⟩; clear tok3; have HB3 := Lib.hid (HB2.out.trans (hb3.mono HB2.out.size)); have HR3 := Lib.hid (Rd.later HR1'.out hb3); clear hb3)
    | (go_at_call 16; have _t := tok4; refine (sealN HR3.out (HT.out.later HB3.out) (by rw [seal4_length]; omega)).mono ?_; rintro e w4 ⟨a4, c4, rfl, hr4, hb4⟩; clear tok4; have HR4 := Lib.hid hr4; have HB4 := Lib.hid (HB3.out.trans (hb4.mono HB3.out.size)); have HR3' := Lib.hid (Rd.later HR3.out hb4); clear hr4 hb4)
    | (go_at_call 17; have _t := tok5; refine (openSealed HR4.out (HT.out.later HB4.out) (by rw [seal4_length]; omega)).mono ?_; rintro e w5 ⟨a5, c5, rfl, hr5, hb5⟩; clear tok5; have HR5 := Lib.hid hr5; have HB5 := Lib.hid (HB4.out.trans (hb5.mono HB4.out.size)); have HR3'' := Lib.hid (Rd.later HR3'.out hb5); clear hr5 hb5)
    | (go_at_call 15; have _t := tok6; refine (bytesSame HR5.out HR3''.out).mono ?_; rintro e w6 ⟨rfl, hb6⟩; clear tok6; have HB6 := Lib.hid (HB5.out.trans (hb6.mono HB5.out.size)); clear hb6)
    | (go_at_call 10; refine (awake_any _ (HT.out.later HB6.out)).mono ?_; rintro e w7 ⟨rfl, hb⟩))
  go_ret
  exact ⟨rfl, HB6.out.trans (hb.mono HB6.out.size)⟩
end Go.Proofs.YtfpbgfhifbgokaaDoor
