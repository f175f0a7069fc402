/- The walk of KeysGets. -/
import Derived.Test.YtakgpljpdcjmfaaKeysGet3
import Derived.Test.YtakgpljpdcjmfaaKeysRefs2
namespace Go.Proofs.Ytakgpljpdcjmfaa
open Go.RowKit

theorem eight_more {l : List UInt8} (h : 8 ≤ l.length) : ∃ a b c d e f g i r, l = [a, b, c, d, e, f, g, i] ++ r := by
  match l, h with
  | a :: b :: c :: d :: e :: f :: g :: i :: r, _ => exact ⟨a, b, c, d, e, f, g, i, r, rfl⟩
/-- Which bytes are an entry's. -/
def okE (l : List UInt8) : Bool := decide (9 ≤ l.length ∧ l.length ≤ 24)
theorem get_yes (l : List UInt8) (h : okE l = true) (w : World) :
    Calls Try.prog 15 #[.string ⟨l.toArray⟩] w fun e w' => e = .returned (.tuple #[entV (Ky.dec (l.take 8)) (l.drop 8), .int .i64 0]) ∧ Below w.heap.size w w' := by
  unfold okE at h
  simp only [decide_eq_true_eq] at h
  obtain ⟨b0, b1, b2, b3, b4, b5, b6, b7, r, rfl⟩ := eight_more (show 8 ≤ l.length by omega)
  exact get_good8 b0 b1 b2 b3 b4 b5 b6 b7 r (by unfold okKey; simp at h ⊢; omega) w
theorem get_no (l : List UInt8) (h : okE l = false) (w : World) :
    Calls Try.prog 15 #[.string ⟨l.toArray⟩] w fun e w' => e = .returned (.tuple #[entV 0 [], .int .i64 11]) ∧ Below w.heap.size w w' := by
  unfold okE at h
  simp only [decide_eq_false_iff_not] at h
  by_cases h8 : l.length < 8
  · exact get_short l h8 w
  · exact get_bad l (by omega) (by unfold okKey; simp; omega) w

theorem Below.alloc_in {w w1 : World} (h : Below w.heap.size w w1) (o : Obj) : Below w.heap.size w (w1.alloc o) := h.alloc h.size o

set_option maxRecDepth 100000 in
set_option maxHeartbeats 2000000 in
theorem gets_walk (l : List UInt8) (w : World) :
    Calls Try.prog 5 #[.string ⟨l.toArray⟩] w (Yes w) := by
  by_cases h1 : 100 < l.length
  · go_enter Try.func5, Try.ntmps5
    go_wp2_with (go_at_call 9; refine (awake_any _).mono ?_; rintro e w2 ⟨rfl, hb⟩; have HB := Lib.hid hb; clear hb)
    go_ret
    exact ⟨rfl, HB.out⟩
  have hg := guardEntry
  by_cases ho : okE l = true
  · have HG := Lib.hid (get_yes l ho)
    unfold okE at ho
    simp only [decide_eq_true_eq] at ho
    obtain ⟨ho1, ho2⟩ := ho
    have HN := Lib.hid (refNumber l (by omega) (by omega))
    have hcut := cut8 l (by omega)
    have heq := eqE_run (Ky.dec (l.take 8)) (l.drop 8) (Ky.dec (l.take 8)) (l.drop 8) true (by simp)
    generalize Ky.dec (l.take 8) = n at *
    generalize l.drop 8 = k at *
    go_enter Try.func5, Try.ntmps5
    go_wp2_with (first
      | (go_at_call 15; refine (HG.out _).mono ?_; rintro e w1 ⟨rfl, hb1⟩; have HB1 := Lib.hid (Below.alloc_in hb1 (.cells #[.int .i64 n, .string ⟨k.toArray⟩] 23)); clear hb1))
    have BX := Lib.hid (Box.made w1 n k 23)
    generalize hW : w1.alloc (.cells #[.int .i64 n, .string ⟨k.toArray⟩] 23) = W at *
    generalize w1.heap.size = g at *
    clear hW
    go_region_held3 (fun W => W.cell? ⟨g, 0, none⟩ = some (.int .i64 n) ∧ W.cell? ⟨g, 1, none⟩ = some (.string ⟨k.toArray⟩))
      (first | exact ⟨BX.out.num, BX.out.key⟩ | exact ⟨(BX.out.later HA.out).num, (BX.out.later HA.out).key⟩)
      (first
        | (go_at_call 16; refine (HN.out _).mono ?_; rintro e w2 ⟨rfl, rfl⟩)
        | (go_at_call 9; refine (awake_any _).mono ?_; rintro e w4 ⟨rfl, hb⟩; have HA := Lib.hid ((Below.refl W.heap.size W).drew.trans hb); clear hb))
    go_wp2
    go_ret
    exact ⟨rfl, HB1.out.trans (HA.out.mono HB1.out.size)⟩
  · have ho' : okE l = false := by simpa using ho
    have HG := Lib.hid (get_no l ho')
    have heq := eqE_run 0 [] 0 [] true (by simp)
    unfold okE at ho'
    simp only [decide_eq_false_iff_not] at ho'
    clear ho
    by_cases h9 : l.length < 9
    all_goals
      first
      | (have h24 : 24 < l.length := by omega
         clear ho')
      | clear ho'
      go_enter Try.func5, Try.ntmps5
      go_wp2_with (first
        | (go_at_call 15; refine (HG.out _).mono ?_; rintro e w1 ⟨rfl, hb1⟩; have HB1 := Lib.hid (Below.alloc_in hb1 (.cells #[.int .i64 0, .string ⟨#[]⟩] 23)); clear hb1)
        | (go_at_call 9; refine (awake_any _).mono ?_; rintro e w4 ⟨rfl, hb⟩; have HA := Lib.hid (HB1.out.trans (hb.mono HB1.out.size)); clear hb))
      go_ret
      exact ⟨rfl, HA.out⟩
end Go.Proofs.Ytakgpljpdcjmfaa
