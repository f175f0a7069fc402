/- The walks of the laws of package sum (fourth part): three rows, turned by one another. -/
import Derived.Test.YtfpbgfhifbgokaaDoorSumLaws3
import Derived.StillTailTactics
import Derived.Deep.RegionHeld3
namespace Go.Proofs.YtfpbgfhifbgokaaDoor
open Go.RowKit

theorem i64_xor_nat (a b : Nat) (ha : a < 4294967296) (hb : b < 4294967296) : bits .xor .i64 (a : Int) (b : Int) = ((a ^^^ b : Nat) : Int) := by
  have hx := Crc.xor_lt ha hb
  show IntKind.i64.wrap ((BitVec.ofInt 64 (a : Int) ^^^ BitVec.ofInt 64 (b : Int)).toNat : Nat) = _
  have e : ∀ n : Nat, n < 4294967296 → (BitVec.ofInt 64 (n : Int)).toNat = n := fun n hn => by
    rw [BitVec.ofInt_natCast, BitVec.toNat_ofNat]
    exact Nat.mod_eq_of_lt (by omega)
  rw [BitVec.toNat_xor, e a ha, e b hb, IntKind.wrap_i64]
  omega
theorem xors_take (a b : List UInt8) (k : Nat) (x y : UInt8) (hx : a[k]? = some x) (hy : b[k]? = some y) : Crc.xors (a.take (k + 1)) (b.take (k + 1)) = Crc.xors (a.take k) (b.take k) ++ [x ^^^ y] := by
  have hka := (List.getElem?_eq_some_iff.1 hx).1
  have hkb := (List.getElem?_eq_some_iff.1 hy).1
  rw [List.take_add_one, List.take_add_one, hx, hy, Crc.xors_append _ _ _ _ (by simp [Nat.min_eq_left (Nat.le_of_lt hka), Nat.min_eq_left (Nat.le_of_lt hkb)])]
  rfl

set_option maxRecDepth 100000 in
set_option maxHeartbeats 1000000 in
theorem linear_walk (a : Option Addr) (c : Nat) (xs : List UInt8) (b : Option Addr) (d : Nat) (ys : List UInt8) (f : Option Addr) (g : Nat) (zs : List UInt8) (w : World)
    (hx : RdB w a c xs) (hy : RdB w b d ys) (hz : RdB w f g zs) (htab : Tab w) :
    Calls Tryd.prog 4 #[.slice a xs.length c, .slice b ys.length d, .slice f zs.length g] w (Yes w) := by
  have HT := Lib.hid htab
  have Hx := Lib.hid hx
  have Hy := Lib.hid hy
  have Hz := Lib.hid hz
  clear hx hy hz htab
  by_cases hl : 300 < xs.length
  · go_enter Tryd.func4, Tryd.ntmps4
    go_wp2_with (go_at_call 10; refine (awake_any _ HT.out).mono ?_; rintro e w2 ⟨rfl, hb⟩)
    go_ret
    exact ⟨rfl, hb⟩
  by_cases hl2 : 300 < ys.length
  · go_enter Tryd.func4, Tryd.ntmps4
    go_wp2_with (go_at_call 10; refine (awake_any _ HT.out).mono ?_; rintro e w2 ⟨rfl, hb⟩)
    go_ret
    exact ⟨rfl, hb⟩
  by_cases hl3 : 300 < zs.length
  · go_enter Tryd.func4, Tryd.ntmps4
    go_wp2_with (go_at_call 10; refine (awake_any _ HT.out).mono ?_; rintro e w2 ⟨rfl, hb⟩)
    go_ret
    exact ⟨rfl, hb⟩
  obtain ⟨i0, hi, hz0, hz1, hz2⟩ := info_parts Tryd.infoByte
  obtain ⟨n, hn1, hn2, hn3, hmin⟩ : ∃ n : Nat, n ≤ xs.length ∧ n ≤ ys.length ∧ n ≤ zs.length ∧
      ∀ ts t (wx : World), (Builtin.min_ ts t #[.int .i64 xs.length, .int .i64 ys.length, .int .i64 zs.length]).run Tryd.prog wx = .ok (.int .i64 (n : Int)) wx := by
    refine ⟨min (min xs.length ys.length) zs.length, by omega, by omega, by omega, fun ts t wx => ?_⟩
    have h : (Builtin.min_ ts t #[.int .i64 (xs.length : Int), .int .i64 (ys.length : Int), .int .i64 (zs.length : Int)]).run Tryd.prog wx = .ok (.int .i64 (if (zs.length : Int) < (if (ys.length : Int) < (xs.length : Int) then (ys.length : Int) else (xs.length : Int)) then (zs.length : Int) else (if (ys.length : Int) < (xs.length : Int) then (ys.length : Int) else (xs.length : Int)))) wx := by
      simp [Builtin.min_, Builtin.min2]
    rw [h]
    congr 2
    split <;> split <;> omega
  go_enter Tryd.func4, Tryd.ntmps4
  go_wp2
  go_loopw [8, 9] (fun v i wr => ∃ (k : Nat) (a' : Option Addr) (c' : Nat), k ≤ n ∧ i = .int .i64 k ∧ v = .slice a' k c' ∧
    Hid (wr.ownsRow w.heap.size 5 1 (.slice a' k c') k (bytesV (Crc.xors (Crc.xors (xs.take k) (ys.take k)) (zs.take k))) ∧ Below w.heap.size w wr)) (fun _ i _ => n - (intOf i).toNat)
  case atStart => exact ⟨0, none, 0, Nat.zero_le _, rfl, rfl, Lib.hid ⟨World.ownsRow_nil _ _ _ _, Below.refl _ _⟩⟩
  case round =>
    obtain ⟨k, a1, c1, hk, rfl, rfl, HR⟩ := hrel
    by_cases hlt : k < n
    · obtain ⟨x, hx⟩ : ∃ x, xs[k]? = some x := ⟨_, List.getElem?_eq_getElem (by omega)⟩
      obtain ⟨y, hy⟩ : ∃ x, ys[k]? = some x := ⟨_, List.getElem?_eq_getElem (by omega)⟩
      obtain ⟨z, hz⟩ : ∃ x, zs[k]? = some x := ⟨_, List.getElem?_eq_getElem (by omega)⟩
      have Hx' := Lib.hid hx
      have Hy' := Lib.hid hy
      have Hz' := Lib.hid hz
      obtain ⟨b1, o1, rfl, hc1⟩ := RdB.at Hx.out k x hx
      obtain ⟨b2, o2, rfl, hc2⟩ := RdB.at Hy.out k y hy
      obtain ⟨b3, o3, rfl, hc3⟩ := RdB.at Hz.out k z hz
      have C1 := Lib.hid hc1
      have C2 := Lib.hid hc2
      have C3 := Lib.hid hc3
      have hxl := Crc.u8_lt x
      have hyl := Crc.u8_lt y
      have hzl := Crc.u8_lt z
      clear hx hy hz hc1 hc2 hc3
      have i0' : (0 : Int) ≤ (k : Int) := by omega
      have i1 : (k : Int) < (xs.length : Int) := by omega
      have i2 : (k : Int) < (ys.length : Int) := by omega
      have i3 : (k : Int) < (zs.length : Int) := by omega
      obtain ⟨xy, x1, X1⟩ : ∃ v : UInt8, bits .xor .u8 (x.toNat : Int) (y.toNat : Int) = (v.toNat : Int) ∧ Hid (v = x ^^^ y) := ⟨_, by rw [u8_xor_nat _ _ hxl hyl, UInt8.toNat_xor], Lib.hid rfl⟩
      have hxyl := Crc.u8_lt xy
      obtain ⟨xyz, x2, X2⟩ : ∃ v : UInt8, bits .xor .u8 (xy.toNat : Int) (z.toNat : Int) = (v.toNat : Int) ∧ Hid (v = xy ^^^ z) := ⟨_, by rw [u8_xor_nat _ _ hxyl hzl, UInt8.toNat_xor], Lib.hid rfl⟩
      go_wp2
      go_region_held3 (fun W => W.cell? ⟨b1, o1 + k, none⟩ = some (.int .u8 (x.toNat : Int)) ∧ W.cell? ⟨b2, o2 + k, none⟩ = some (.int .u8 (y.toNat : Int)) ∧ W.cell? ⟨b3, o3 + k, none⟩ = some (.int .u8 (z.toNat : Int)))
        (first | exact ⟨old_cell C1.out HR.out.2.drew, old_cell C2.out HR.out.2.drew, old_cell C3.out HR.out.2.drew⟩ | exact ⟨old_cell C1.out (HR.out.2.drew.alloc HR.out.2.size _), old_cell C2.out (HR.out.2.drew.alloc HR.out.2.size _), old_cell C3.out (HR.out.2.drew.alloc HR.out.2.size _)⟩ | exact ⟨old_cell C1.out HB3.out, old_cell C2.out HB3.out, old_cell C3.out HB3.out⟩)
        ((refine step_app (by rfl) _ _ 22 (by rfl) w.heap.size 5 i0 (.int .u8 0) 1 1 Tryd.underlying22 hi hz0 hz1 hz2 (by rfl) (by decide) a1 k c1 _ (by rfl) ((HR.out.1.drew).alloc _) (some ⟨wr.heap.size, 0, none⟩) 1 1 [.int .u8 (xyz.toNat : Int)] (by rfl) (Rd.oneNew wr.drew _ _ rfl) (by unfold maxLen; omega) (by omega) (by have := HR.out.2.size; simp; omega) ?_; intro a3 c3 w3 hown3 hgrow3; have HB3 := Lib.hid ((HR.out.2.drew.alloc HR.out.2.size _).grown hgrow3 (by have := HR.out.2.size; simp; omega) (fun j hj => (HR.out.1.lt j hj).1)); have HO3 := Lib.hid hown3; clear hown3 hgrow3))
      have hxs : Crc.xors (Crc.xors (xs.take (k + 1)) (ys.take (k + 1))) (zs.take (k + 1)) = Crc.xors (Crc.xors (xs.take k) (ys.take k)) (zs.take k) ++ [xyz] := by
        have l1 : (xs.take k).length = k := by rw [List.length_take]; omega
        have l2 : (ys.take k).length = k := by rw [List.length_take]; omega
        have l3 : (zs.take k).length = k := by rw [List.length_take]; omega
        rw [xors_take _ _ _ _ _ Hx'.out Hy'.out, List.take_add_one (l := zs), Hz'.out, Crc.xors_append _ _ _ _ (by rw [Crc.xors_length _ _ (by omega)]; omega), X2.out, X1.out]
        rfl
      have HR3 : Hid (w3.ownsRow w.heap.size 5 1 (.slice a3 (k + 1) c3) (k + 1) (bytesV (Crc.xors (Crc.xors (xs.take (k + 1)) (ys.take (k + 1))) (zs.take (k + 1)))) ∧ Below w.heap.size w w3) := by
        rw [hxs, bytesV_append]
        exact Lib.hid ⟨HO3.out, HB3.out⟩
      clear hxs
      go_wp2
      go_roundw
      case rel => exact ⟨k + 1, a3, c3, by omega, by go_num, by rfl, HR3⟩
      case measure => simp [intOf]; omega
    · obtain rfl : k = n := by omega
      obtain ⟨A, hA, HA⟩ : ∃ A : Nat, A < 4294967296 ∧ Hid (Crc.sum 0 (xs.take k) = A) := ⟨_, by have := Crc.sum_le 0 (xs.take k); omega, Lib.hid rfl⟩
      obtain ⟨B, hB, HBb⟩ : ∃ A : Nat, A < 4294967296 ∧ Hid (Crc.sum 0 (ys.take k) = A) := ⟨_, by have := Crc.sum_le 0 (ys.take k); omega, Lib.hid rfl⟩
      obtain ⟨C, hC, HC⟩ : ∃ A : Nat, A < 4294967296 ∧ Hid (Crc.sum 0 (zs.take k) = A) := ⟨_, by have := Crc.sum_le 0 (zs.take k); omega, Lib.hid rfl⟩
      obtain ⟨AB, y1, hAB, Y1⟩ : ∃ m : Nat, bits .xor .i64 (A : Int) (B : Int) = (m : Int) ∧ m < 4294967296 ∧ Hid (m = A ^^^ B) := ⟨_, i64_xor_nat A B hA hB, Crc.xor_lt hA hB, Lib.hid rfl⟩
      obtain ⟨D, y2, hD, Y2⟩ : ∃ m : Nat, bits .xor .i64 (AB : Int) (C : Int) = (m : Int) ∧ m < 4294967296 ∧ Hid (m = AB ^^^ C) := ⟨_, i64_xor_nat AB C hAB hC, Crc.xor_lt hAB hC, Lib.hid rfl⟩
      have l1 : (xs.take k).length = k := by rw [List.length_take]; omega
      have l2 : (ys.take k).length = k := by rw [List.length_take]; omega
      have l3 : (zs.take k).length = k := by rw [List.length_take]; omega
      have HD : Hid (Crc.sum 0 (Crc.xors (Crc.xors (xs.take k) (ys.take k)) (zs.take k)) = D) := by
        refine Lib.hid ?_
        rw [Crc.linear _ _ _ (by omega) (by omega), HA.out, HBb.out, HC.out, Y2.out, Y1.out]
      have q1 := fun wx => run_slice_to (P := Tryd.prog) 22 Tryd.underlying22 1 Tryd.sizeByte a xs.length c .i64 (k : Int) k rfl (by have := (RdB.le Hx.out).1; omega) wx
      have q2 := fun wx => run_slice_to (P := Tryd.prog) 22 Tryd.underlying22 1 Tryd.sizeByte b ys.length d .i64 (k : Int) k rfl (by have := (RdB.le Hy.out).1; omega) wx
      have q3 := fun wx => run_slice_to (P := Tryd.prog) 22 Tryd.underlying22 1 Tryd.sizeByte f zs.length g .i64 (k : Int) k rfl (by have := (RdB.le Hz.out).1; omega) wx
      have cut : ∀ {e : Option Addr} {cap : Nat} {l : List UInt8}, RdB w e cap l → k ≤ l.length → Rd w 1 e k cap (bytesV (l.take k)) := fun h hk => by
        have h2 := Rd.to h k hk
        rwa [Nat.mul_one, bytesV_take] at h2
      have SA : Hid (Calls Tryd.prog 11 #[.slice a k c] wr.drew fun e w' => e = .returned (.int .i64 A) ∧ w' = wr.drew) :=
        Lib.hid ((sumN (Rd.later (cut Hx.out hn1) HR.out.2.drew) (HT.out.later HR.out.2.drew)).mono fun e w' ⟨he, hw⟩ => ⟨by rw [he, HA.out], hw.symm⟩)
      have SB : Hid (Calls Tryd.prog 11 #[.slice b k d] wr.drew fun e w' => e = .returned (.int .i64 B) ∧ w' = wr.drew) :=
        Lib.hid ((sumN (Rd.later (cut Hy.out hn2) HR.out.2.drew) (HT.out.later HR.out.2.drew)).mono fun e w' ⟨he, hw⟩ => ⟨by rw [he, HBb.out], hw.symm⟩)
      have SC : Hid (Calls Tryd.prog 11 #[.slice f k g] wr.drew fun e w' => e = .returned (.int .i64 C) ∧ w' = wr.drew) :=
        Lib.hid ((sumN (Rd.later (cut Hz.out hn3) HR.out.2.drew) (HT.out.later HR.out.2.drew)).mono fun e w' ⟨he, hw⟩ => ⟨by rw [he, HC.out], hw.symm⟩)
      have SD : Hid (Calls Tryd.prog 11 #[.slice a1 k c1] wr.drew fun e w' => e = .returned (.int .i64 D) ∧ w' = wr.drew) :=
        Lib.hid ((sumN (rdOwn (HR.out.1.drew)) (HT.out.later HR.out.2.drew)).mono fun e w' ⟨he, hw⟩ => ⟨by rw [he, HD.out], hw.symm⟩)
      clear l1 l2 l3 cut
      go_wp2
      refine wp_region_still_tail 18 (by kernel_rfl) (by kernel_rfl) ?_
      simp only [List.take_succ_cons, List.take_zero, List.drop_succ_cons, List.drop_zero]
      repeat still_step
      still_call SD.out
      repeat still_step
      still_call SA.out
      repeat still_step
      still_call SB.out
      repeat still_step
      still_call SC.out
      repeat still_step
      refine wpStill_nil ?_
      change wpList _ _ _ _ _ wr.drew
      have HB9 := Lib.hid HR.out.2.drew
      generalize wr.drew = w9 at HB9 ⊢
      go_wp2_with (go_at_call 10; refine (awake_any _ (HT.out.later HB9.out)).mono ?_; rintro e w11 ⟨rfl, hb⟩)
      go_ret
      exact ⟨rfl, HB9.out.trans (hb.mono HB9.out.size)⟩
end Go.Proofs.YtfpbgfhifbgokaaDoor
