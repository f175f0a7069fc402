/- Joined: Law20. -/
import Derived.Test.YtbempjkkohjnbaaYRes
import Derived.Test.YtbempjkkohjnbaaYLaw6
import Derived.Laws.StructEq
/- The laws of package cursor: awake; CursorNil. -/
namespace Go.Proofs.Ytbempjkkohjnbaa
open Go.RowKit Tr
open Ky (less)

theorem eqTwo (d : Nat) (a b c e : List UInt8) (w : World) : (Op.equalIn (d + 2) 67 (.agg #[.string ⟨a.toArray⟩, .string ⟨b.toArray⟩]) (.agg #[.string ⟨c.toArray⟩, .string ⟨e.toArray⟩])).run Try.prog w = .ok (a == c && b == e) w := by
  have u9 := Try.underlying9
  have g9 := Try.isAgg9
  have z9 := Try.sizeOf9
  have u67 := Try.underlying67
  have hr : List.range' 0 2 = [0, 1] := rfl
  unfold Op.equalIn
  go_simp
  by_cases h1 : a = c <;> by_cases h2 : b = e <;> simp [h1, h2]
theorem guardTwo : Try.prog.eqGuardType Try.prog.depth 67 = false := by kernel_rfl
theorem eqlTwo (a b c e : List UInt8) (r : Bool) (h : (a == c && b == e) = r) (w : World) : (binOp .eql 67 (.agg #[.string ⟨a.toArray⟩, .string ⟨b.toArray⟩]) (.agg #[.string ⟨c.toArray⟩, .string ⟨e.toArray⟩])).run Try.prog w = .ok (.bool r) w := by
  rw [run_eql_struct, eqTwo, h]; rfl
theorem neqTwo (a b c e : List UInt8) (r : Bool) (h : (a == c && b == e) = r) (w : World) : (binOp .neq 67 (.agg #[.string ⟨a.toArray⟩, .string ⟨b.toArray⟩]) (.agg #[.string ⟨c.toArray⟩, .string ⟨e.toArray⟩])).run Try.prog w = .ok (.bool (!r)) w := by
  rw [run_neq_struct, eqTwo, h]; rfl
theorem awk5_put {B : Nat} {w0 w : World} {b : Nat} {L L' : List Pr} (key : Str) (hL : putL key [] L = L') (hn : L.length ≤ 100) (h : Own B w0 [TreeR b 2 L] w) :
    Calls Try.prog 19 #[ptrV b, .string ⟨key.toArray⟩, .string ⟨#[]⟩] w fun e V => (∃ r, e = .returned r) ∧ Own B w0 [TreeR b 2 L'] V := by
  refine (own_put key [] h (by omega)).mono ?_
  rintro e V ⟨rfl, h1⟩
  rw [hL] at h1
  exact ⟨⟨_, rfl⟩, h1⟩
/-- An element of a row of pairs. -/
theorem rd_pair {w : World} {a : Option Addr} {n c : Nat} {L : List Pr} (h : Rd w 2 a n c (pairsV L)) {i : Nat} {p : Pr} (hp : L[i]? = some p) :
    ∃ b o, a = some ⟨b, o, none⟩ ∧ w.cell? ⟨b, o + i * 2, none⟩ = some (.string ⟨p.1.toArray⟩) ∧ w.cell? ⟨b, o + i * 2 + 1, none⟩ = some (.string ⟨p.2.toArray⟩) := by
  have hi := (List.getElem?_eq_some_iff.1 hp).1
  obtain ⟨b, o, e, h1⟩ := h.addr (by intro e; have := pairsV_len L; rw [e] at this; simp at this; omega)
  obtain ⟨g1, g2⟩ := pairsV_get hp
  exact ⟨b, o, e, h1 _ _ g1, by have := h1 _ _ g2; rwa [← Nat.add_assoc] at this⟩
abbrev abcL : List Pr := [([97], []), ([98], []), ([99], [])]
set_option maxHeartbeats 4000000 in
set_option maxRecDepth 100000 in
theorem awake5_any (w : World) : Calls Try.prog 24 #[] w fun e V => e = .returned (.bool true) ∧ Below w.heap.size w V := by
  have HN := Lib.hid (own_new 2 (by omega) (by omega) (Own.nil w))
  have q1 := eqlTwo [98] [] [98] [] true rfl
  have tok1 : True := trivial
  have tok2 : True := trivial
  have tok3 : True := trivial
  have tok4 : True := trivial
  have tok5 : True := trivial
  go_enter Try.func24, Try.ntmps24
  go_wp2_with (first
    | (go_at_call 17; refine HN.out.mono ?_; rintro e V ⟨b, rfl, h0⟩; have H0 := Lib.hid h0; clear h0)
    | (go_at_call 19; have _t := tok1; refine (awk5_put [97] (L' := [([97], [])]) (by decide) (by decide) H0.out).mono ?_; rintro e1 V1 ⟨⟨r1, rfl⟩, h1⟩; have H1 := Lib.hid h1; clear h1 tok1 _t)
    | (go_at_call 19; have _t := tok2; refine (awk5_put [98] (L' := [([97], []), ([98], [])]) (by decide) (by decide) H1.out).mono ?_; rintro e2 V2 ⟨⟨r2, rfl⟩, h2⟩; have H2 := Lib.hid h2; clear h2 tok2 _t)
    | (go_at_call 19; refine (awk5_put [99] (L' := abcL) (by decide) (by decide) H2.out).mono ?_; rintro e3 V3 ⟨⟨r3, rfl⟩, h3⟩; have H3 := Lib.hid h3; clear h3)
    | (go_at_call 26; refine (own_curNew [97] [99] (.inr (by decide)) H3.out).mono ?_; rintro e4 V4 ⟨c, rfl, h4⟩; have H4 := Lib.hid h4; clear h4)
    | (go_at_call 25; have _t := tok3; refine (own_next_go (q := ([97], [])) (rest := [([98], [])]) H4.out (by decide) (by decide)).mono ?_; rintro e5 V5 ⟨rfl, h5, _⟩; have H5 := Lib.hid h5; clear h5 tok3 _t)
    | (go_at_call 25; have _t := tok4; refine (own_next_go (q := ([98], [])) (rest := []) H5.out (by decide) (by decide)).mono ?_; rintro e6 V6 ⟨rfl, h6, _⟩; have H6 := Lib.hid h6; clear h6 tok4 _t)
    | (go_at_call 25; refine (own_next_stop H6.out (by decide)).mono ?_; rintro e7 V7 ⟨rfl, h7⟩; have H7 := Lib.hid (H6.out.later h7).swap; clear h7)
    | (go_at_call 27; refine (own_scan [] [] 2 (.inl rfl) H7.out (by decide) (by decide)).mono ?_; rintro e8 V8 ⟨a, lc, rfl, h8, h9⟩; obtain ⟨xb, xo, rfl, x1, x2⟩ := rd_pair (i := 1) (p := ([98], [])) h8 rfl; have H8 := Lib.hid (H7.out.later h9); clear h8 h9))
  go_ret
  exact ⟨rfl, H8.out.low⟩
set_option maxHeartbeats 4000000 in
set_option maxRecDepth 100000 in
theorem cursorNil_walk (s : Str) (n : Int) (w : World) : Calls Try.prog 4 #[.string ⟨s.toArray⟩, .int .i64 n] w (Yes w) := by
  have HA := Lib.hid (fun W => awake5_any W)
  by_cases hs : 300 < s.length
  · have h1 : (300 : Int) < (s.length : Int) := by omega
    go_enter Try.func4, Try.ntmps4
    go_wp2_with (go_at_call 24; refine (HA.out _).mono ?_; rintro e V5 ⟨rfl, hb⟩; have HB := Lib.hid hb; clear hb)
    go_ret
    exact ⟨rfl, HB.out⟩
  · have h1 : ¬ (300 : Int) < (s.length : Int) := by omega
    have q1 : binOp .add 9 (.string ⟨#[]⟩) (.string ⟨#[]⟩) = pure (.string ⟨#[]⟩) := cat_run 9 [] [] (by decide)
    have q2 : binOp .eql 9 (.string ⟨#[]⟩) (.string ⟨#[]⟩) = pure (.bool true) := eql_self 9 []
    have HN := Lib.hid (nextC_nil w)
    have HC := Lib.hid (newC_nil s [] w)
    have HS := Lib.hid (scan_nil [] s n w)
    have HK := Lib.hid (fun W => seekC_nil s W)
    go_enter Try.func4, Try.ntmps4
    go_wp2_with (first
      | (go_at_call 25; refine HN.out.mono ?_; rintro e V ⟨rfl, rfl⟩)
      | (go_at_call 26; refine HC.out.mono ?_; rintro e V ⟨rfl, rfl⟩)
      | (go_at_call 27; refine HS.out.mono ?_; rintro e V1 ⟨rfl, hb⟩; have H1 := Lib.hid hb; clear hb; unfold scanBad)
      | (go_at_call 28; refine (HK.out _).mono ?_; rintro e V2 ⟨rfl, rfl⟩)
      | (go_at_call 24; refine (HA.out _).mono ?_; rintro e V5 ⟨rfl, hb⟩; have HB := Lib.hid hb; clear hb))
    go_ret
    exact ⟨rfl, H1.out.trans (HB.out.mono H1.out.size)⟩
end Go.Proofs.Ytbempjkkohjnbaa
