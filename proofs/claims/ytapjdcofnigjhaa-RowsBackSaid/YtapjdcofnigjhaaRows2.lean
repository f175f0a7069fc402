/- Package rows: column, Changes. -/
import Derived.Test.YtapjdcofnigjhaaRows1
namespace Go.Proofs.Ytapjdcofnigjhaa
open Go.RowKit

theorem made4 (w : World) (i : Nat) (v : Int) (k : List UInt8) (b : Bool) (t : TypeId) : Rd (w.alloc (.cells #[.int .i64 (i : Int), .int .i64 v, .string ⟨k.toArray⟩, .bool b] t)) 4 (some ⟨w.heap.size, 0, none⟩) 1 1 (chgV k [(i, v, b)]) :=
  Rd.made w (chgV k [(i, v, b)]) t 4 1 rfl (by decide) (chgV_one _ _) (0, 0)

set_option maxHeartbeats 1000000 in
theorem column_any (i : Nat) (hi : i < 4) (k : List UInt8) (p q : Option (Nat × Nat)) (f g : Option (Nat → Int)) (w : World) (hp : PtrAt w p f) (hq : PtrAt w q g) :
    Calls Try.prog 41 #[.int .i64 (i : Int), .string ⟨k.toArray⟩, ptrV p, ptrV q] w fun e w' => ∃ a c, e = .returned (.slice a (chgCol i f g).length c) ∧ Loc 4 w w' a (chgCol i f g).length c (chgV k (chgCol i f g)) := by
  have hA := fun a n c xs a2 m c2 news hn w1 => and_any w a n c xs a2 m c2 news hn w1
  have HA := Lib.hid hA
  clear hA
  have hi4 : (i : Int) < 4 := by omega
  have hi0 : (0 : Int) ≤ (i : Int) := by omega
  match p, f, hp with
  | none, none, _ =>
    match q, g, hq with
    | none, none, _ =>
      unfold ptrV
      go_enter Try.func41, Try.ntmps41
      go_wp2
      go_ret
      exact ⟨none, 0, rfl, Loc.start 4 w w (Below.refl _ _)⟩
    | some (b2, o2), some g, hq =>
      unfold ptrV
      have c2 := hq i hi
      have HL := Lib.hid (Loc.start 4 w (w.alloc (.cells #[.int .i64 (i : Int), .int .i64 (g i), .string ⟨k.toArray⟩, .bool true] 42)) (al1 _ _))
      have HM := Lib.hid (made4 w i (g i) k true 42)
      clear hq
      go_enter Try.func41, Try.ntmps41
      go_wp2_with (go_at_call 40; refine (HA.out none 0 0 [] _ 1 1 (chgV k [(i, g i, true)]) (by omega) _ HL.out HM.out).mono ?_; rintro e w1 ⟨a1, c1, rfl, h1⟩; have H1 := Lib.hid h1; clear h1)
      go_ret
      exact ⟨a1, c1, rfl, H1.out⟩
  | some (b1, o1), some f, hp =>
    have c1 := hp i hi
    match q, g, hq with
    | none, none, _ =>
      unfold ptrV
      have HL := Lib.hid (Loc.start 4 w (w.alloc (.cells #[.int .i64 (i : Int), .int .i64 (f i), .string ⟨k.toArray⟩, .bool false] 42)) (al1 _ _))
      have HM := Lib.hid (made4 w i (f i) k false 42)
      clear hp
      go_enter Try.func41, Try.ntmps41
      go_wp2_with (go_at_call 40; refine (HA.out none 0 0 [] _ 1 1 (chgV k [(i, f i, false)]) (by omega) _ HL.out HM.out).mono ?_; rintro e w1 ⟨a1, c1, rfl, h1⟩; have H1 := Lib.hid h1; clear h1)
      go_ret
      exact ⟨a1, c1, rfl, H1.out⟩
    | some (b2, o2), some g, hq =>
      unfold ptrV
      have c2 := hq i hi
      have C2 := Lib.hid c2
      have HL := Lib.hid (Loc.start 4 w (w.alloc (.cells #[.int .i64 (i : Int), .int .i64 (f i), .string ⟨k.toArray⟩, .bool false] 42)) (al1 _ _))
      have HM := Lib.hid (made4 w i (f i) k false 42)
      clear hp hq c2
      have tok1 : True := trivial
      go_enter Try.func41, Try.ntmps41
      go_wp2_with (first
        | (have _t := tok1; go_at_call 40; refine (HA.out none 0 0 [] _ 1 1 (chgV k [(i, f i, false)]) (by omega) _ HL.out HM.out).mono ?_; rintro e w1 ⟨a1, c1, rfl, h1⟩; have H1 := Lib.hid h1; have c2 := old_cell C2.out h1.low; clear h1 tok1)
        | (go_at_call 40; refine (HA.out a1 1 c1 (chgV k [(i, f i, false)]) _ 1 1 (chgV k [(i, g i, true)]) (by omega) _ (H1.out.later (al1 _ _)) (made4 w1 i (g i) k true 42)).mono ?_; rintro e w2 ⟨a2, c3, rfl, h2⟩; have H2 := Lib.hid h2; clear h2))
      go_ret
      exact ⟨a2, c3, rfl, H2.out⟩
end Go.Proofs.Ytapjdcofnigjhaa
