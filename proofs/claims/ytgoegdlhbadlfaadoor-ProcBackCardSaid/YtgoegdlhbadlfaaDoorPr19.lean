/- The law's awake: the chapter's example. -/
import Derived.Test.YtgoegdlhbadlfaaDoorPr16
import Derived.Test.YtgoegdlhbadlfaaDoorPr18
namespace Go.Proofs.YtgoegdlhbadlfaaDoor
namespace Pc
open Go.RowKit
/-- The chapter's example. -/
def exL : List OpP := [(1, 0, 0, 5, 0), (14, 0, 0, 3, 1), (3, 0, 0, 0, 0)]
def exS : Str := [115, 101, 116, 32, 48, 32, 53, 10, 108, 111, 111, 112, 32, 51, 32, 49, 10, 97, 100, 100, 32, 48, 32, 48, 10]
theorem itoa_small {n : Nat} (h : n < 10) : Lib.itoa n = [UInt8.ofNat (48 + n)] := by
  unfold Lib.itoa
  rw [if_neg (by omega), Int.toNat_natCast, Lib.decDigits_one h]
theorem exText : textP exL = exS := by
  have h0 : Lib.itoa 0 = [48] := itoa_small (n := 0) (by omega)
  have h1 : Lib.itoa 1 = [49] := itoa_small (n := 1) (by omega)
  have h3 : Lib.itoa 3 = [51] := itoa_small (n := 3) (by omega)
  have h5 : Lib.itoa 5 = [53] := itoa_small (n := 5) (by omega)
  simp [textP, exL, lineP, bodyP, wordN, hasN, fld, h0, h1, h3, h5, exS]
theorem exCheck : checkP exL = 0 := by decide +kernel
theorem exBound : boundP exL = 8 := by decide +kernel
theorem exRes : resP exS = (exL, 0, 0) := by rw [← exText]; exact res_text exCheck
set_option maxHeartbeats 1000000 in
set_option maxRecDepth 100000 in
theorem awake_any (w : World) (hL : Laid w) : Calls Tryd.prog 5 #[] w (Yes w) := by
  have hG := hL.size
  have HL := Lib.hid hL
  have HP : Hid (∀ W, Laid W → Calls Tryd.prog 8 #[.string ⟨exS.toArray⟩] W fun e V => ∃ (a : Option Addr) (c : Nat), e = .returned (.tuple #[.slice a 3 c, .int .i64 0, .int .i64 0]) ∧ Rd V 5 a 3 c (opsV exL) ∧ Below W.heap.size W V) := Lib.hid (fun W h => by
    have := parseAll_any exS (by decide) W h
    rw [exRes] at this
    exact this)
  have HB : Hid (∀ a c W, Laid W → Rd W 5 a 3 c (opsV exL) → Calls Tryd.prog 6 #[.slice a 3 c] W fun e V => e = .returned (.tuple #[.int .i64 8, .int .i64 0]) ∧ Below W.heap.size W V) := Lib.hid (fun a c W h hr => by
    have := bound_any exL a c W h hr
    rw [exBound, exCheck] at this
    exact this)
  clear hL
  go_enter Tryd.func5, Tryd.ntmps5
  go_wp2_with (first
    | (go_at_call 8; refine (HP.out _ HL.out).mono ?_; rintro e w1 ⟨a1, c1, rfl, hr, hb⟩; have H1 := Lib.hid (And.intro hr hb); clear hr hb)
    | (go_at_call 6; refine (HB.out _ _ _ (HL.out.later H1.out.2 hG) H1.out.1).mono ?_; rintro e w2 ⟨rfl, hb⟩; have H2 := Lib.hid hb; clear hb)
    | (go_at_call 9; refine (lawSame_true _ _ _ _ exL (by decide) _ (H1.out.1.later (H2.out.trans ((al1 w2 _).mono H2.out.size))) (Rd.made w2 (opsV exL) 28 5 3 rfl (by decide) (opsV_one _) (0, 0))).mono ?_; rintro e w3 ⟨rfl, hb⟩; have H3 := Lib.hid hb; clear hb))
  go_ret
  exact ⟨rfl, H1.out.2.trans ((H2.out.trans ((al1 w2 _).mono H2.out.size)).mono H1.out.2.size |>.trans (H3.out.mono (by have := H1.out.2.size; have := H2.out.size; simp; omega)))⟩
end Pc
end Go.Proofs.YtgoegdlhbadlfaaDoor
