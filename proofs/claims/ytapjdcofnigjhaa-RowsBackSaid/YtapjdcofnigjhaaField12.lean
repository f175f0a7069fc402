/- awake of law02. -/
import Derived.Test.YtapjdcofnigjhaaField11
namespace Go.Proofs.Ytapjdcofnigjhaa
open Go.RowKit
theorem awake_grp : [] ++ Fd.grp 300 ++ Fd.grp (Fd.zig (-1)) ++ Fd.grp (Fd.zig 1) ++ (Fd.grp 2 ++ [97, 98]) = [172, 2, 1, 2, 2, 97, 98] := by
  have e1 : Fd.zig (-1) = 1 := by decide
  have e2 : Fd.zig 1 = 2 := by decide
  rw [e1, e2, Fd.grp_big (n := 300) (by decide), Fd.grp_small (n := 1) (by decide), Fd.grp_small (n := 2) (by decide)]
  rfl
theorem awake_parse : Fd.parse 0 ([128, 0] : List UInt8) = none := by
  rw [Fd.parse_more (by decide) (by decide), Fd.parse_zero (by decide) (by decide)]
  rfl
theorem two_made (w : World) : RdB (w.alloc (.cells #[.int .u8 128, .int .u8 0] 5)) (some ⟨w.heap.size, 0, none⟩) 2 ([128, 0] : List UInt8) := Rd.made w (bytesV [128, 0]) 5 1 2 rfl (by decide) (bytesV_one _) (0, 0)
theorem seven_made (w : World) : RdB (w.alloc (.cells #[.int .u8 172, .int .u8 2, .int .u8 1, .int .u8 2, .int .u8 2, .int .u8 97, .int .u8 98] 5)) (some ⟨w.heap.size, 0, none⟩) 7 ([172, 2, 1, 2, 2, 97, 98] : List UInt8) := Rd.made w (bytesV [172, 2, 1, 2, 2, 97, 98]) 5 1 7 rfl (by decide) (bytesV_one _) (0, 0)
set_option maxRecDepth 100000 in
set_option maxHeartbeats 1000000 in
theorem awake02 (w : World) : Calls Try.prog 23 #[] w (FYes w) := by
  have h9 := Fd.grp_nine (n := 300) (by decide)
  have h10 := Fd.grp_ten (Fd.zig_lt (v := -1) (by unfold Fd.In; omega))
  have h11 := Fd.grp_ten (Fd.zig_lt (v := 1) (by unfold Fd.In; omega))
  obtain ⟨b1, e1⟩ : ∃ b1, b1 = [] ++ Fd.grp 300 := ⟨_, rfl⟩
  obtain ⟨b2, e2⟩ : ∃ b2, b2 = b1 ++ Fd.grp (Fd.zig (-1)) := ⟨_, rfl⟩
  obtain ⟨b3, e3⟩ : ∃ b3, b3 = b2 ++ Fd.grp (Fd.zig 1) := ⟨_, rfl⟩
  have l1 : b1.length ≤ 9 := by rw [e1]; exact h9
  have l2 : b2.length ≤ 19 := by rw [e2, List.length_append]; omega
  have l3 : b3.length ≤ 29 := by rw [e3, List.length_append]; omega
  have HU : Hid (∀ w1, WNew w w1 w.heap.size [] → Calls Try.prog 24 #[.pointer (some ⟨w.heap.size, 0, none⟩), .int .i64 300] w1 fun e w' => e = .returned (.int .i64 0) ∧ WNew w w' w.heap.size b1) := Lib.hid (fun w1 h => e1 ▸ nUint w w.heap.size [] 300 (by decide) (by decide) w1 h)
  have HI : Hid (∀ w1, WNew w w1 w.heap.size b1 → Calls Try.prog 27 #[.pointer (some ⟨w.heap.size, 0, none⟩), .int .i64 (-1)] w1 fun e w' => e = .returned (.int .i64 0) ∧ WNew w w' w.heap.size b2) := Lib.hid (fun w1 h => e2 ▸ nInt w w.heap.size b1 (-1) (by unfold Fd.In; omega) (by omega) w1 h)
  have HJ : Hid (∀ w1, WNew w w1 w.heap.size b2 → Calls Try.prog 27 #[.pointer (some ⟨w.heap.size, 0, none⟩), .int .i64 1] w1 fun e w' => e = .returned (.int .i64 0) ∧ WNew w w' w.heap.size b3) := Lib.hid (fun w1 h => e3 ▸ nInt w w.heap.size b2 1 (by unfold Fd.In; omega) (by omega) w1 h)
  have e4 : b3 ++ (Fd.grp 2 ++ [97, 98]) = [172, 2, 1, 2, 2, 97, 98] := by rw [e3, e2, e1]; exact awake_grp
  have HT : Hid (∀ w1, WNew w w1 w.heap.size b3 → Calls Try.prog 29 #[.pointer (some ⟨w.heap.size, 0, none⟩), .string ⟨#[97, 98]⟩] w1 fun e w' => e = .returned (.int .i64 0) ∧ WNew w w' w.heap.size [172, 2, 1, 2, 2, 97, 98]) := Lib.hid (fun w1 h => e4 ▸ nText w w.heap.size b3 [97, 98] (by decide) (by omega) w1 h)
  have HP := Lib.hid awake_parse
  clear e1 e2 e3 e4 h9 h10 h11
  go_enter Try.func23, Try.ntmps23
  go_wp2_with (first
    | ((with_reducible refine (HU.out _ (WNew.made (Below.refl _ _) _)).mono ?_); rintro e w1 ⟨rfl, h⟩; have H1 := Lib.hid h; clear h)
    | ((with_reducible refine (HI.out _ H1.out).mono ?_); rintro e w2 ⟨rfl, h⟩; have H2 := Lib.hid h; clear h)
    | ((with_reducible refine (HJ.out _ H2.out).mono ?_); rintro e w3 ⟨rfl, h⟩; have H3 := Lib.hid h; clear h)
    | (go_at_call 29; refine (HT.out _ H3.out).mono ?_; rintro e w4 ⟨rfl, h⟩; have H4 := Lib.hid h; clear h)
    | (go_at_call 31; refine (read_any _ _ [128, 0] (by decide) _ (two_made w4)).mono ?_; rintro e w5 ⟨g, a5, c5, rfl, hr, hb, hg⟩; have H5 := Lib.hid (And.intro (And.intro ((al1' _ _).trans (hb.mono (by simp))) (show w4.heap.size ≤ g by simp at hg; omega)) hr); clear hr hb hg)
    | (go_at_call 33; refine (rUint_any _ _ _ [128, 0] 0 (by decide) w5 H5.out.2 none HP.out).mono ?_; rintro e w6 ⟨rfl, hr, hf⟩; have H6 := Lib.hid (H4.out.later (H5.out.1.1.trans (hf.below H5.out.1.1.size (fun b o h => h.1 ▸ H5.out.1.2)))); clear hr hf)
    | (go_at_call 30; refine (nBytes w w.heap.size _ (by decide) w6 H6.out).mono ?_; rintro e w7 ⟨a7, c7, rfl, hr, hb⟩; have H7 := Lib.hid (And.intro (H6.out.low.trans (hb.mono H6.out.low.size)) hr); clear hr hb)
    | (go_at_call 15; refine (bytes_B _ _ [172, 2, 1, 2, 2, 97, 98] _ _ [172, 2, 1, 2, 2, 97, 98] _ (H7.out.2.later (al1' w7 _)) (seven_made w7)).mono ?_; rintro e w8 ⟨rfl, hb⟩; have H8 := Lib.hid (H7.out.1.trans (((al1' w7 _).mono H7.out.1.size).trans (hb.mono (Nat.le_trans H7.out.1.size (by simp))))); clear hb))
  go_ret
  exact ⟨by first | rfl | (simp; done), H8.out⟩
end Go.Proofs.Ytapjdcofnigjhaa
