/- The laws of package sched: awake. -/
import Derived.Test.YtpfcghigfkhimaaSched8
namespace Go.Proofs.Ytpfcghigfkhimaa
open Go.RowKit

/-- What a law's walk ends in. -/
def Yes (w : World) (e : Ending) (w' : World) : Prop := e = .returned (.bool true) ∧ Below w.heap.size w w'
/-- A board that was made since w0. -/
structure New (w0 w : World) (g sb : Nat) (chs : List Nat) (st : List (Option Int)) : Prop where
  brd : Brd w g sb chs st
  low : Below w0.heap.size w0 w
  g0 : w0.heap.size ≤ g
  sb0 : w0.heap.size ≤ sb
  c0 : ∀ c ∈ chs, w0.heap.size ≤ c
theorem New.turn {w0 w w' : World} {g sb : Nat} {chs : List Nat} {st st' : List (Option Int)} (h : New w0 w g sb chs st) (hb : Brd w' g sb chs st') (hf : Fr (bF chs) w w') : New w0 w' g sb chs st' :=
  ⟨hb, h.low.trans (hf.below h.low.size (fun b o hb => h.c0 b hb)), h.g0, h.sb0, h.c0⟩
theorem New.later {w0 w w' : World} {g sb : Nat} {chs : List Nat} {st : List (Option Int)} (h : New w0 w g sb chs st) (hb : Below w.heap.size w w') : New w0 w' g sb chs st :=
  ⟨h.brd.later hb, h.low.trans (hb.mono h.low.size), h.g0, h.sb0, h.c0⟩
theorem acts_ex : actsL [none, some 7] 2 true [8, 7] = [(1, 0, 0), (2, 0, 8), (3, 1, 7)] := by decide
set_option maxHeartbeats 1000000 in
theorem awake_any (w : World) : Calls Try.prog 9 #[] w (Yes w) := by
  have hgd := guardAct
  have q0 := eqlAct 1 0 0 1 0 0 true (by decide)
  have q1 := eqlAct 2 0 8 2 0 8 true (by decide)
  have q2 := eqlAct 3 1 7 3 1 7 true (by decide)
  have HN := Lib.hid (fun w => new_any 2 (by decide) (by decide) w)
  have hA : ∀ (g sb : Nat) (chs : List Nat) (W : World) (a : Option Addr) (c : Nat), chs.length = 2 → Brd W g sb chs [none, some 7] → Rd W 1 a 2 c (intsV [8, 7]) →
      Calls Try.prog 11 #[.pointer (some ⟨g, 0, none⟩), .bool true, .slice a 2 c] W fun e w' => ∃ a c, e = .returned (.slice a 3 c) ∧ Rd w' 3 a 3 c (actsV [(1, 0, 0), (2, 0, 8), (3, 1, 7)]) ∧ Brd w' g sb chs [none, some 7] ∧ Fr (bF chs) W w' := by
    intro g sb chs W a c hl hb hr
    have h := acts_true g sb chs [none, some 7] a c [8, 7] (by decide) W hb hr (by
      intro o ho i hi
      simp only [List.mem_cons, List.not_mem_nil, or_false] at ho
      rcases ho with rfl | rfl
      · cases hi
      · cases hi; decide) (by
      intro i hi
      simp only [List.mem_cons, List.not_mem_nil, or_false] at hi
      rcases hi with rfl | rfl <;> decide)
    rw [hl, acts_ex] at h
    exact h
  have HA := Lib.hid hA
  clear hA
  go_enter Try.func9, Try.ntmps9
  go_wp2_with (first
    | (go_at_call 8; refine (HN.out _).mono ?_; rintro e w1 ⟨g, sb, chs, rfl, hb, hl, h1, h2, h3⟩; have H1 := Lib.hid (New.mk hb hl h1 h2 h3); clear hb hl h1 h2 h3)
    | (go_at_call 10; refine (give_ok g sb chs [none, none] 1 7 (by decide) (by decide) (by decide) _ H1.out.brd).mono ?_; rintro e w2 ⟨rfl, hb, hf⟩; have H2 : Hid (New w w2 g sb chs [none, some 7]) := Lib.hid (H1.out.turn hb hf); clear hb hf)
    | (go_at_call 11; refine (HA.out g sb chs _ _ _ H2.out.brd.len.symm (H2.out.later (al1 w2 _)).brd (Rd.made w2 (intsV [8, 7]) 3 1 2 rfl (by decide) (intsV_one _) (0, 0))).mono ?_; rintro e w3 ⟨a3, c3, rfl, hrd, hb, hf⟩; have H3 := Lib.hid ((H2.out.later (al1 w2 _)).turn hb hf); obtain ⟨b, o, rfl, x0, x1, x2⟩ := act_at hrd (j := 0) rfl; obtain ⟨b', o', e', y0, y1, y2⟩ := act_at hrd (j := 1) rfl; obtain ⟨rfl, rfl⟩ : b' = b ∧ o' = o := (by simp at e'; exact ⟨e'.1.symm, e'.2.symm⟩); clear e'; obtain ⟨b'', o'', e', z0, z1, z2⟩ := act_at hrd (j := 2) rfl; obtain ⟨rfl, rfl⟩ : b'' = b' ∧ o'' = o' := (by simp at e'; exact ⟨e'.1.symm, e'.2.symm⟩); simp only [Nat.zero_mul, Nat.add_zero, Nat.one_mul, Nat.reduceMul] at x0 x1 x2 y0 y1 y2 z0 z1 z2; clear hrd hb hf e'))
  go_ret
  exact ⟨rfl, H3.out.low⟩
end Go.Proofs.Ytpfcghigfkhimaa
