/- The laws of package rows: awake; RowsEncode. -/
import Derived.Test.YtapjdcofnigjhaaRows3
import Derived.Test.YtapjdcofnigjhaaRows4
namespace Go.Proofs.Ytapjdcofnigjhaa
open Go.RowKit

/-- What a law's walk ends in. -/
def Yes (w : World) (e : Ending) (w' : World) : Prop := e = .returned (.bool true) ∧ Below w.heap.size w w'
theorem enc_ex : encR (rowF 0 1 (-1) 64) 4 = [0, 2, 1, 128, 1] := by
  have z0 : Fd.zig 0 = 0 := by decide
  have z1 : Fd.zig 1 = 2 := by decide
  have z2 : Fd.zig (-1) = 1 := by decide
  have z3 : Fd.zig 64 = 128 := by decide
  simp only [encR, rowF, z0, z1, z2, z3]
  rw [Fd.grp_small (n := 0) (by omega), Fd.grp_small (n := 2) (by omega), Fd.grp_small (n := 1) (by omega), Fd.grp_big (n := 128) (by omega), Fd.grp_small (n := 128 / 128) (by omega)]
  rfl
theorem chg_ex : chgs 4 (some (rowF 1 0 0 0)) (some (rowF 1 2 0 0)) = [(1, 0, false), (1, 2, true)] := by decide
/-- The cells of a change in a row of changes. -/
theorem chg_at {w : World} {a : Option Addr} {n c : Nat} {k : List UInt8} {L : List Chg} (h : Rd w 4 a n c (chgV k L)) {j : Nat} {x : Chg} (hj : L[j]? = some x) :
    ∃ b o, a = some ⟨b, o, none⟩ ∧ w.cell? ⟨b, o + j * 4, none⟩ = some (.int .i64 (x.1 : Int)) ∧ w.cell? ⟨b, o + j * 4 + 1, none⟩ = some (.int .i64 x.2.1) ∧ w.cell? ⟨b, o + j * 4 + 2, none⟩ = some (.string ⟨k.toArray⟩) ∧ w.cell? ⟨b, o + j * 4 + 3, none⟩ = some (.bool x.2.2) := by
  have get : ∀ (L : List Chg) (j : Nat), L[j]? = some x → (chgV k L)[j * 4]? = some (.int .i64 (x.1 : Int)) ∧ (chgV k L)[j * 4 + 1]? = some (.int .i64 x.2.1) ∧ (chgV k L)[j * 4 + 2]? = some (.string ⟨k.toArray⟩) ∧ (chgV k L)[j * 4 + 3]? = some (.bool x.2.2) := by
    intro L
    induction L with
    | nil => intro j h; simp at h
    | cons y L ih =>
      intro j h
      have e : chgV k (y :: L) = .int .i64 (y.1 : Int) :: .int .i64 y.2.1 :: .string ⟨k.toArray⟩ :: .bool y.2.2 :: chgV k L := rfl
      match j, h with
      | 0, h => simp at h; subst h; rw [e]; simp
      | j + 1, h =>
        have h1 := ih j (by simpa using h)
        rw [e, show (j + 1) * 4 = j * 4 + 1 + 1 + 1 + 1 by omega, show j * 4 + 1 + 1 + 1 + 1 + 1 = (j * 4 + 1) + 1 + 1 + 1 + 1 by omega, show j * 4 + 1 + 1 + 1 + 1 + 2 = (j * 4 + 2) + 1 + 1 + 1 + 1 by omega, show j * 4 + 1 + 1 + 1 + 1 + 3 = (j * 4 + 3) + 1 + 1 + 1 + 1 by omega]
        simp only [List.getElem?_cons_succ]
        exact h1
  obtain ⟨g0, g1, g2, g3⟩ := get L j hj
  obtain ⟨b, o, rfl, hc⟩ := h.addr (by intro h0; rw [h0] at g0; simp at g0)
  exact ⟨b, o, rfl, hc _ _ g0, hc _ _ g1, hc _ _ g2, hc _ _ g3⟩

set_option maxHeartbeats 2000000 in
theorem awake_any (w : World) : Calls Try.prog 18 #[] w (Yes w) := by
  have hc : ∀ (W : World) (b1 o1 b2 o2 : Nat), RowAt W b1 o1 (rowF 1 0 0 0) → RowAt W b2 o2 (rowF 1 2 0 0) →
      Calls Try.prog 19 #[.string ⟨#[97]⟩, .pointer (some ⟨b1, o1, none⟩), .pointer (some ⟨b2, o2, none⟩)] W fun e w' => ∃ a c, e = .returned (.tuple #[.slice a 2 c, .int .i64 0]) ∧ Loc 4 W w' a 2 c (chgV [97] [(1, 0, false), (1, 2, true)]) := by
    intro W b1 o1 b2 o2 h1 h2
    have h := changes_ss [97] (by decide) b1 o1 b2 o2 (rowF 1 0 0 0) (rowF 1 2 0 0) W h1 h2
    unfold GivesC at h
    rw [chg_ex] at h
    exact h
  have he : ∀ (W : World), Calls Try.prog 16 #[rowV 0 1 (-1) 64] W fun e w' => ∃ a c, e = .returned (.slice a 5 c) ∧ RdB w' a c [0, 2, 1, 128, 1] ∧ Below W.heap.size W w' := by
    intro W
    have h := encode_any 0 1 (-1) 64 (rowF_in (by unfold Fd.In; omega) (by unfold Fd.In; omega) (by unfold Fd.In; omega) (by unfold Fd.In; omega)) W
    unfold GivesB at h
    rw [enc_ex] at h
    exact h
  have hb : ∀ (W : World) a c b d, RdB W a c [0, 2, 1, 128, 1] → RdB W b d [0, 2, 1, 128, 1] → Calls Try.prog 15 #[.slice a 5 c, .slice b 5 d] W fun e w' => e = .returned (.bool true) ∧ Below W.heap.size W w' := by
    intro W a c b d h1 h2
    exact bytes_B a c [0, 2, 1, 128, 1] b d [0, 2, 1, 128, 1] W h1 h2
  have HC := Lib.hid hc
  have HE := Lib.hid he
  have HBy := Lib.hid hb
  have hA := al1 w (.cells #[.int .i64 1, .int .i64 0, .int .i64 0, .int .i64 0] 23)
  have hA2 := al1 (w.alloc (.cells #[.int .i64 1, .int .i64 0, .int .i64 0, .int .i64 0] 23)) (.cells #[.int .i64 1, .int .i64 2, .int .i64 0, .int .i64 0] 23)
  have hr1 := (RowAt.made w 1 0 0 0 23).later hA2
  have hr2 := RowAt.made (w.alloc (.cells #[.int .i64 1, .int .i64 0, .int .i64 0, .int .i64 0] 23)) 1 2 0 0 23
  have H0 := Lib.hid (And.intro (hA.trans (hA2.mono hA.size)) (And.intro hr1 (by simpa using hr2)))
  have hgd := guardChg
  have q1 := eqlChg 1 0 [97] false 1 0 [97] false true (by decide)
  have q2 := eqlChg 1 2 [97] true 1 2 [97] true true (by decide)
  clear hc he hb hA hA2 hr1 hr2
  go_enter Try.func18, Try.ntmps18
  go_wp2_with (first
    | (go_at_call 19; refine (HC.out _ _ _ _ _ H0.out.2.1 H0.out.2.2).mono ?_; rintro e w1 ⟨a1, c1, rfl, h1⟩; have H1 := Lib.hid (And.intro h1.rd (H0.out.1.trans (h1.low.mono H0.out.1.size))); clear h1)
    | (go_at_call 16; refine (HE.out _).mono ?_; rintro e w2 ⟨a2, c2, rfl, hrd, hb⟩; have H2 := Lib.hid (And.intro hrd (And.intro (H1.out.1.later hb) (H1.out.2.trans (hb.mono H1.out.2.size)))); clear hrd hb)
    | (go_at_call 15; refine (HBy.out _ a2 c2 _ 5 (RdB.later H2.out.1 (al1 w2 _)) (Rd.made w2 (bytesV [0, 2, 1, 128, 1]) 5 1 5 rfl (by decide) (bytesV_one _) (0, 0))).mono ?_; rintro e w3 ⟨rfl, hb⟩; have H3 := Lib.hid ((al1 w2 _).trans (hb.mono (al1 w2 _).size)); obtain ⟨b, o, rfl, x0, x1, x2, x3⟩ := chg_at (H2.out.2.1.later H3.out) (j := 0) rfl; obtain ⟨b', o', e', y0, y1, y2, y3⟩ := chg_at (H2.out.2.1.later H3.out) (j := 1) rfl; obtain ⟨rfl, rfl⟩ : b' = b ∧ o' = o := (by simp at e'; exact ⟨e'.1.symm, e'.2.symm⟩); simp only [Nat.zero_mul, Nat.add_zero, Nat.one_mul] at x0 x1 x2 x3 y0 y1 y2 y3; clear hb e'))
  go_ret
  exact ⟨rfl, H2.out.2.2.trans (H3.out.mono H2.out.2.2.size)⟩
end Go.Proofs.Ytapjdcofnigjhaa
