/- The walks of the laws of package sum (third part): what is sealed. -/
import Derived.Test.YtfpbgfhifbgokaaDoorSumLaws2
import Derived.Deep.RegionHeld3
namespace Go.Proofs.YtfpbgfhifbgokaaDoor
open Go.RowKit

theorem refSumN {a : Option Addr} {n c : Nat} {bs : List UInt8} {w : World} (h : Rd w 1 a n c (bytesV bs)) :
    Calls Tryd.prog 12 #[.int .i64 0, .slice a n c] w fun e w' => e = .returned (.int .i64 (Crc.sum 0 bs)) ∧ w = w' := by
  obtain rfl := rdN h
  exact refSum_any 0 (by decide) a c bs w h
theorem fourN (n : Nat) (hn : n ≤ 4294967295) (w : World) :
    Calls Tryd.prog 14 #[.int .i64 n] w fun e w' => ∃ a c, e = .returned (.slice a 4 c) ∧ Rd w' 1 a 4 c (bytesV (Crc.four n)) ∧ Below w.heap.size w w' :=
  four_any n hn w
theorem bytesN {a b : Option Addr} {n m c d : Nat} {xs ys : List UInt8} {w : World} (hx : Rd w 1 a n c (bytesV xs)) (hy : Rd w 1 b m d (bytesV ys)) :
    Calls Tryd.prog 15 #[.slice a n c, .slice b m d] w fun e w' => e = .returned (.bool (decide (xs = ys))) ∧ Below w.heap.size w w' := by
  obtain rfl := rdN hx
  obtain rfl := rdN hy
  exact (bytes_any a c xs b d ys w hx hy).mono fun e w' ⟨he, k, hw⟩ => ⟨he, by rw [hw]; exact below_drewN (Below.refl _ _) k⟩
/-- What Open answers, whatever the bytes. -/
def opened (bs : List UInt8) : List UInt8 × Int := if bs.length < 4 then ([], 11) else if bs = Crc.seal4 (body bs) then (body bs, 0) else ([], 12)
theorem openN {a : Option Addr} {n c : Nat} {bs : List UInt8} {w : World} (h : Rd w 1 a n c (bytesV bs)) (ht : Tab w) (hl : bs.length ≤ 90000) :
    Calls Tryd.prog 17 #[.slice a n c] w fun e w' => ∃ a' c', e = .returned (.tuple #[.slice a' (opened bs).1.length c', .int .i64 (opened bs).2]) ∧ RdB w' a' c' (opened bs).1 ∧ Below w.heap.size w w' := by
  obtain rfl := rdN h
  by_cases h4 : bs.length < 4
  · have e : opened bs = ([], 11) := by unfold opened; rw [if_pos h4]
    rw [e]
    refine (open_short a c bs w h4).mono fun e w' ⟨he, hw⟩ => ⟨none, 0, he, Rd.nilSlice _ _, ?_⟩
    rw [← hw]; exact Below.refl _ _
  · by_cases hs : bs = Crc.seal4 (body bs)
    · have e : opened bs = (body bs, 0) := by unfold opened; rw [if_neg h4, if_pos hs]
      rw [e]
      exact open_good a c bs w h ht (by omega) (by omega) hs
    · have e : opened bs = ([], 12) := by unfold opened; rw [if_neg h4, if_neg hs]
      rw [e]
      exact (open_bad a c bs w h ht (by omega) (by omega) hs).mono fun e w' ⟨he, hb⟩ => ⟨none, 0, he, Rd.nilSlice _ _, hb⟩

set_option maxRecDepth 100000 in
set_option maxHeartbeats 1000000 in
theorem seals_walk (a : Option Addr) (c : Nat) (xs : List UInt8) (w : World) (hx : RdB w a c xs) (htab : Tab w) :
    Calls Tryd.prog 7 #[.slice a xs.length c] w (Yes w) := by
  have hle := hx.le
  have Hx := Lib.hid hx
  have HT := Lib.hid htab
  clear hx htab
  by_cases hl : 100 < xs.length
  · go_enter Tryd.func7, Tryd.ntmps7
    go_wp2_with (go_at_call 10; refine (awake_any _ HT.out).mono ?_; rintro e w2 ⟨rfl, hb⟩)
    go_ret
    exact ⟨rfl, hb⟩
  obtain ⟨i0, hi, hz0, hz1, hz2⟩ := info_parts Tryd.infoByte
  obtain ⟨A, hA, HA⟩ : ∃ A : Nat, A ≤ 4294967295 ∧ Hid (A = Crc.sum 0 xs) := ⟨_, Crc.sum_le 0 xs, Lib.hid rfl⟩
  have tok1 : True := trivial
  have tok2 : True := trivial
  have tok3 : True := trivial
  have tok4 : True := trivial
  have tok5 : True := trivial
  by_cases h4 : xs.length < 4
  · have ho : opened xs = ([], 11) := by unfold opened; rw [if_pos h4]
    have hat : (xs.length : Int) - 4 < 0 := by omega
    have HO := Lib.hid ho
    clear ho
    go_enter Tryd.func7, Tryd.ntmps7
    go_wp2_with (first
      | (at_builtin; have _t := tok1; refine wpList_app rfl _ _ 22 rfl w.heap.size 5 i0 (.int .u8 0) 1 1 Tryd.underlying22 hi hz0 hz1 hz2 rfl (by decide) none 0 0 [] rfl (World.ownsRow_nil _ _ _ _) _ xs.length c (bytesV xs) rfl Hx.out (by unfold maxLen; omega) (by omega) (Nat.le_refl _) ?_; intro a1 c1 w1 hown1 hgrow1; clear tok1; simp only [Nat.zero_add, List.nil_append] at hown1; have HB1 := Lib.hid ((Below.refl w.heap.size w).grown hgrow1 (Nat.le_refl _) (by simp [Value.ownBlock])); have HO1 := Lib.hid hown1; clear hown1 hgrow1)
      | (go_at_call 12; have _t := tok2; ((with_reducible refine (refSumN (Rd.later Hx.out HB1.out)).mono ?_); rintro e w' ⟨rfl, rfl⟩; clear tok2; rw [← HA.out]))
      | (go_at_call 14; refine (fourN _ hA _).mono ?_; rintro e w2 ⟨a2, c2, rfl, hr2, hb2⟩; have HR2 := Lib.hid hr2; have HB2 := Lib.hid (HB1.out.trans (hb2.mono HB1.out.size)); have HO2 := Lib.hid (own_later HO1.out hb2); clear hr2 hb2)
      | (at_builtin; have _t := tok3; refine wpList_app rfl _ _ 22 rfl w.heap.size 5 i0 (.int .u8 0) 1 1 Tryd.underlying22 hi hz0 hz1 hz2 rfl (by decide) a1 xs.length c1 _ rfl HO2.out _ 4 c2 _ rfl HR2.out (by unfold maxLen; omega) (by omega) HB2.out.size ?_; intro a3 c3 w3 hown3 hgrow3; clear tok3; have HB3 := Lib.hid (HB2.out.grown hgrow3 HB2.out.size (fun k hk => (HO2.out.lt k hk).1)); rw [HA.out, ← bytesV_append] at hown3; have HO3 := Lib.hid (rdOwn hown3); clear hown3 hgrow3)
      | (go_at_call 16; refine (sealN (Rd.later Hx.out HB3.out) (HT.out.later HB3.out) (by omega)).mono ?_; rintro e w4 ⟨a4, c4, rfl, hr4, hb4⟩; have HR4 := Lib.hid hr4; have HB4 := Lib.hid (HB3.out.trans (hb4.mono HB3.out.size)); have HO4 := Lib.hid (Rd.later HO3.out hb4); clear hr4 hb4)
      | (go_at_call 15; have _t := tok4; ((with_reducible refine (bytesSame HR4.out HO4.out).mono ?_); rintro e w5 ⟨rfl, hb5⟩; clear tok4; have HB5 := Lib.hid (HB4.out.trans (hb5.mono HB4.out.size)); clear hb5))
      | (go_at_call 17; refine (openN (Rd.later Hx.out HB5.out) (HT.out.later HB5.out) (by omega)).mono ?_; rintro e w6 ⟨a6, c6, rfl, hr6, hb6⟩; rw [HO.out] at hr6 ⊢; have HR6 := Lib.hid hr6; have HB6 := Lib.hid (HB5.out.trans (hb6.mono HB5.out.size)); clear hr6 hb6)
      | (go_at_call 10; refine (awake_any _ (HT.out.later HB6.out)).mono ?_; rintro e w9 ⟨rfl, hb⟩))
    go_ret
    exact ⟨rfl, HB6.out.trans (hb.mono HB6.out.size)⟩
  obtain ⟨m, hm⟩ : ∃ m, xs.length = m + 4 := ⟨xs.length - 4, by omega⟩
  have hbody : body xs = xs.take m := by unfold body; rw [hm, Nat.add_sub_cancel]
  have hne : ¬ (xs.length : Int) - 4 < 0 := by omega
  obtain ⟨aF, cF, hsl1, hF⟩ : ∃ aF cF, (∀ wx : World, (Instr.slice 22 (.slice a xs.length c) (some (.int .i64 ((xs.length : Int) - 4))) none none).run Tryd.prog wx = .ok (.slice aF 4 cF) wx) ∧ Rd w 1 aF 4 cF (bytesV (xs.drop m)) := by
    have h1 := fun wx => run_slice_from (P := Tryd.prog) 22 Tryd.underlying22 1 Tryd.sizeByte a xs.length c .i64 ((xs.length : Int) - 4) m (by omega) (by omega) wx
    have h2 := Rd.from Hx.out m (by omega)
    rw [Nat.mul_one, bytesV_drop] at h2
    rw [show xs.length - m = 4 by omega] at h1 h2
    exact ⟨_, _, h1, by simpa using h2⟩
  have hsl2 := fun wx => run_slice_to (P := Tryd.prog) 22 Tryd.underlying22 1 Tryd.sizeByte a xs.length c .i64 ((xs.length : Int) - 4) m (by omega) (by omega) wx
  have hG : Rd w 1 a m c (bytesV (xs.take m)) := by
    have h2 := Rd.to Hx.out m (by omega)
    rwa [Nat.mul_one, bytesV_take] at h2
  have HF := Lib.hid hF
  have HG := Lib.hid hG
  obtain ⟨B, hB, HB⟩ : ∃ B : Nat, B ≤ 4294967295 ∧ Hid (B = Crc.sum 0 (xs.take m)) := ⟨_, Crc.sum_le 0 _, Lib.hid rfl⟩
  have hiff : (xs.drop m = Crc.four (Crc.sum 0 (xs.take m))) ↔ xs = Crc.seal4 (body xs) := by
    rw [hbody]
    unfold Crc.seal4
    constructor
    · intro h
      rw [← h, List.take_append_drop]
    · intro h
      have hl2 : (xs.take m).length = m := by rw [List.length_take]; omega
      have := congrArg (List.drop m) h
      conv at this => rhs; rw [List.drop_append_of_le_length (by omega), List.drop_of_length_le (by omega)]
      simpa using this
  obtain ⟨Y, hY⟩ : ∃ Y, Y = xs.take m := ⟨_, rfl⟩
  obtain ⟨Z, hZ⟩ : ∃ Z, Z = xs.drop m := ⟨_, rfl⟩
  rw [← hY] at HG HB hiff hbody
  rw [← hZ] at HF hiff
  clear hF hG
  by_cases hs : xs = Crc.seal4 (body xs)
  · have ho : opened xs = (Y, 0) := by unfold opened; rw [if_neg h4, if_pos hs, hbody]
    have hd : decide (Z = Crc.four B) = true := decide_eq_true (by rw [HB.out]; exact hiff.2 hs)
    have HO := Lib.hid ho
    have HD := Lib.hid hd
    have HM := Lib.hid hm
    clear ho hd hs hiff hbody hm hY hZ
    go_enter Tryd.func7, Tryd.ntmps7
    go_wp2_with (first
      | (at_builtin; have _t := tok1; refine wpList_app rfl _ _ 22 rfl w.heap.size 5 i0 (.int .u8 0) 1 1 Tryd.underlying22 hi hz0 hz1 hz2 rfl (by decide) none 0 0 [] rfl (World.ownsRow_nil _ _ _ _) _ xs.length c (bytesV xs) rfl Hx.out (by unfold maxLen; omega) (by omega) (Nat.le_refl _) ?_; intro a1 c1 w1 hown1 hgrow1; clear tok1; simp only [Nat.zero_add, List.nil_append] at hown1; have HB1 := Lib.hid ((Below.refl w.heap.size w).grown hgrow1 (Nat.le_refl _) (by simp [Value.ownBlock])); have HO1 := Lib.hid hown1; clear hown1 hgrow1)
      | (go_at_call 12; have _t := tok2; ((with_reducible refine (refSumN (Rd.later Hx.out HB1.out)).mono ?_); rintro e w' ⟨rfl, rfl⟩; clear tok2; rw [← HA.out]))
      | (go_at_call 14; refine (fourN _ hA _).mono ?_; rintro e w2 ⟨a2, c2, rfl, hr2, hb2⟩; have HR2 := Lib.hid hr2; have HB2 := Lib.hid (HB1.out.trans (hb2.mono HB1.out.size)); have HO2 := Lib.hid (own_later HO1.out hb2); clear hr2 hb2)
      | (at_builtin; have _t := tok3; refine wpList_app rfl _ _ 22 rfl w.heap.size 5 i0 (.int .u8 0) 1 1 Tryd.underlying22 hi hz0 hz1 hz2 rfl (by decide) a1 xs.length c1 _ rfl HO2.out _ 4 c2 _ rfl HR2.out (by unfold maxLen; omega) (by omega) HB2.out.size ?_; intro a3 c3 w3 hown3 hgrow3; clear tok3; have HB3 := Lib.hid (HB2.out.grown hgrow3 HB2.out.size (fun k hk => (HO2.out.lt k hk).1)); rw [HA.out, ← bytesV_append] at hown3; have HO3 := Lib.hid (rdOwn hown3); clear hown3 hgrow3)
      | (go_at_call 16; refine (sealN (Rd.later Hx.out HB3.out) (HT.out.later HB3.out) (by omega)).mono ?_; rintro e w4 ⟨a4, c4, rfl, hr4, hb4⟩; have HR4 := Lib.hid hr4; have HB4 := Lib.hid (HB3.out.trans (hb4.mono HB3.out.size)); have HO4 := Lib.hid (Rd.later HO3.out hb4); clear hr4 hb4)
      | (go_at_call 15; have _t := tok4; ((with_reducible refine (bytesSame HR4.out HO4.out).mono ?_); rintro e w5 ⟨rfl, hb5⟩; clear tok4; have HB5 := Lib.hid (HB4.out.trans (hb5.mono HB4.out.size)); clear hb5))
      | (go_at_call 17; refine (openN (Rd.later Hx.out HB5.out) (HT.out.later HB5.out) (by omega)).mono ?_; rintro e w6 ⟨a6, c6, rfl, hr6, hb6⟩; rw [HO.out] at hr6 ⊢; have HR6 := Lib.hid hr6; have HB6 := Lib.hid (HB5.out.trans (hb6.mono HB5.out.size)); clear hr6 hb6))
    go_region_held3 (fun W => Below w.heap.size w W) (first | exact HB6.out.drew | exact HB9.out | exact HB8.out) (first | (go_at_call 12; refine (refSumN (Rd.later HG.out HB6.out.drew)).mono ?_; rintro e w' ⟨rfl, rfl⟩; rw [← HB.out]) | (go_at_call 14; refine (fourN _ hB _).mono ?_; rintro e w8 ⟨a8, c8, rfl, hr8, hb8⟩; have HR8 := Lib.hid hr8; have HB8 := Lib.hid (HB6.out.drew.trans (hb8.mono HB6.out.drew.size)); have HR6' := Lib.hid (Rd.later HR6.out ((Below.refl _ _).drew.trans hb8)); clear hr8 hb8) | (go_at_call 15; refine (bytesN (Rd.later HF.out HB8.out) HR8.out).mono ?_; rintro e w9 ⟨rfl, hb9⟩; rw [HD.out]; have HB9 := Lib.hid (HB8.out.trans (hb9.mono HB8.out.size)); have HR6'' := Lib.hid (Rd.later HR6'.out hb9); clear hb9))
    go_wp2_with (first
      | (go_at_call 15; ((with_reducible refine (bytesSame HR6''.out (Rd.later HG.out HB9.out)).mono ?_); rintro e w10 ⟨rfl, hb10⟩; have HB10 := Lib.hid (HB9.out.trans (hb10.mono HB9.out.size)); clear hb10))
      | (go_at_call 10; refine (awake_any _ (HT.out.later HB10.out)).mono ?_; rintro e w11 ⟨rfl, hb⟩))
    go_ret
    exact ⟨rfl, HB10.out.trans (hb.mono HB10.out.size)⟩
  · have ho : opened xs = ([], 12) := by unfold opened; rw [if_neg h4, if_neg hs]
    have hd : decide (Z = Crc.four B) = false := decide_eq_false (fun h => hs (hiff.1 (by rw [← HB.out]; exact h)))
    have HO := Lib.hid ho
    have HD := Lib.hid hd
    have HM := Lib.hid hm
    clear ho hd hs hiff hbody hm hY hZ
    go_enter Tryd.func7, Tryd.ntmps7
    go_wp2_with (first
      | (at_builtin; have _t := tok1; refine wpList_app rfl _ _ 22 rfl w.heap.size 5 i0 (.int .u8 0) 1 1 Tryd.underlying22 hi hz0 hz1 hz2 rfl (by decide) none 0 0 [] rfl (World.ownsRow_nil _ _ _ _) _ xs.length c (bytesV xs) rfl Hx.out (by unfold maxLen; omega) (by omega) (Nat.le_refl _) ?_; intro a1 c1 w1 hown1 hgrow1; clear tok1; simp only [Nat.zero_add, List.nil_append] at hown1; have HB1 := Lib.hid ((Below.refl w.heap.size w).grown hgrow1 (Nat.le_refl _) (by simp [Value.ownBlock])); have HO1 := Lib.hid hown1; clear hown1 hgrow1)
      | (go_at_call 12; have _t := tok2; ((with_reducible refine (refSumN (Rd.later Hx.out HB1.out)).mono ?_); rintro e w' ⟨rfl, rfl⟩; clear tok2; rw [← HA.out]))
      | (go_at_call 14; refine (fourN _ hA _).mono ?_; rintro e w2 ⟨a2, c2, rfl, hr2, hb2⟩; have HR2 := Lib.hid hr2; have HB2 := Lib.hid (HB1.out.trans (hb2.mono HB1.out.size)); have HO2 := Lib.hid (own_later HO1.out hb2); clear hr2 hb2)
      | (at_builtin; have _t := tok3; refine wpList_app rfl _ _ 22 rfl w.heap.size 5 i0 (.int .u8 0) 1 1 Tryd.underlying22 hi hz0 hz1 hz2 rfl (by decide) a1 xs.length c1 _ rfl HO2.out _ 4 c2 _ rfl HR2.out (by unfold maxLen; omega) (by omega) HB2.out.size ?_; intro a3 c3 w3 hown3 hgrow3; clear tok3; have HB3 := Lib.hid (HB2.out.grown hgrow3 HB2.out.size (fun k hk => (HO2.out.lt k hk).1)); rw [HA.out, ← bytesV_append] at hown3; have HO3 := Lib.hid (rdOwn hown3); clear hown3 hgrow3)
      | (go_at_call 16; refine (sealN (Rd.later Hx.out HB3.out) (HT.out.later HB3.out) (by omega)).mono ?_; rintro e w4 ⟨a4, c4, rfl, hr4, hb4⟩; have HR4 := Lib.hid hr4; have HB4 := Lib.hid (HB3.out.trans (hb4.mono HB3.out.size)); have HO4 := Lib.hid (Rd.later HO3.out hb4); clear hr4 hb4)
      | (go_at_call 15; have _t := tok4; ((with_reducible refine (bytesSame HR4.out HO4.out).mono ?_); rintro e w5 ⟨rfl, hb5⟩; clear tok4; have HB5 := Lib.hid (HB4.out.trans (hb5.mono HB4.out.size)); clear hb5))
      | (go_at_call 17; refine (openN (Rd.later Hx.out HB5.out) (HT.out.later HB5.out) (by omega)).mono ?_; rintro e w6 ⟨a6, c6, rfl, hr6, hb6⟩; rw [HO.out] at hr6 ⊢; have HR6 := Lib.hid hr6; have HB6 := Lib.hid (HB5.out.trans (hb6.mono HB5.out.size)); clear hr6 hb6))
    go_region_held3 (fun W => Below w.heap.size w W) (first | exact HB6.out.drew | exact HB9.out | exact HB8.out) (first | (go_at_call 12; refine (refSumN (Rd.later HG.out HB6.out.drew)).mono ?_; rintro e w' ⟨rfl, rfl⟩; rw [← HB.out]) | (go_at_call 14; refine (fourN _ hB _).mono ?_; rintro e w8 ⟨a8, c8, rfl, hr8, hb8⟩; have HR8 := Lib.hid hr8; have HB8 := Lib.hid (HB6.out.drew.trans (hb8.mono HB6.out.drew.size)); have HR6' := Lib.hid (Rd.later HR6.out ((Below.refl _ _).drew.trans hb8)); clear hr8 hb8) | (go_at_call 15; refine (bytesN (Rd.later HF.out HB8.out) HR8.out).mono ?_; rintro e w9 ⟨rfl, hb9⟩; rw [HD.out]; have HB9 := Lib.hid (HB8.out.trans (hb9.mono HB8.out.size)); have HR6'' := Lib.hid (Rd.later HR6'.out hb9); clear hb9))
    go_wp2_with (first
      | (go_at_call 10; refine (awake_any _ (HT.out.later HB9.out)).mono ?_; rintro e w11 ⟨rfl, hb⟩))
    go_ret
    exact ⟨rfl, HB9.out.trans (hb.mono HB9.out.size)⟩
end Go.Proofs.YtfpbgfhifbgokaaDoor
