/- Joined: Law21. -/
import Derived.Test.YtbempjkkohjnbaaYRes
import Derived.Test.YtbempjkkohjnbaaYLaw20
import Derived.StillTailTactics
/- The laws of package cursor: made, short; the document's In, Range. -/
namespace Go.Proofs.Ytbempjkkohjnbaa
open Go.RowKit Tr
open Ky (less)
section
variable {B : Nat} {w0 w : World} {X : List Rs}
theorem own_lst0 (h : Own B w0 X w) (t : TypeId) : Own B w0 (LstR w.heap.size [] :: X) (w.alloc (.cells #[.slice none 0 0] t)) :=
  h.add (al1 w _) (F := lstF w.heap.size noCells) ⟨noCells, none, 0, ⟨by simp, by simp, Sl.none_ _ 2, fun x h => h, fun _ _ h => h.elim⟩, rfl⟩ (fun k x hx => by
    rcases hx with e | e
    · rw [e]; exact Nat.le_refl _
    · exact e.elim)
end
set_option maxHeartbeats 2000000 in
set_option maxRecDepth 100000 in
/-- A tree and a list, behind calls. -/
theorem made_any (o : Nat) (h2 : 2 ≤ o) (h16 : o ≤ 16) (a : Option Addr) (c : Nat) (l : List TOp) (hl : l.length ≤ 200) (w : World) (hr : Rd w 3 a l.length c (topsV l)) :
    Calls Try.prog 36 #[.int .i64 o, .slice a l.length c] w fun e V => ∃ b r, e = .returned (.tuple #[ptrV b, ptrV r]) ∧ Own w.heap.size w [TreeR b o (runL l), LstR r (runL l)] V := by
  have HN := Lib.hid (own_new o h2 h16 (Own.nil w))
  have HR := Lib.hid hr
  clear hr
  go_enter Try.func36, Try.ntmps36
  go_wp2_with (go_at_call 17; refine HN.out.mono ?_; rintro e V ⟨b, rfl, h0⟩; have H0 := Lib.hid (fun t => (own_lst0 h0 t).swap); clear h0)
  obtain ⟨r, hrr⟩ : ∃ r, V.heap.size = r := ⟨_, rfl⟩
  rw [hrr] at H0 ⊢
  clear hrr
  go_loopw [9] (fun i wr => ∃ (j : Nat), j ≤ l.length ∧ i = .int .i64 j ∧ Hid (Own w.heap.size w [TreeR b o (runL (l.take j)), LstR r (runL (l.take j))] wr)) (fun i _ => l.length - (intOf i).toNat)
  case atStart => exact ⟨0, by omega, rfl, Lib.hid (H0.out _)⟩
  case round =>
    obtain ⟨j, hj, rfl, HJ⟩ := hrel
    by_cases hlt : j < l.length
    · obtain ⟨⟨ask, key, v⟩, hx⟩ : ∃ x, l[j]? = some x := ⟨_, List.getElem?_eq_getElem hlt⟩
      obtain ⟨lb, lo, rfl, x0, x1, x2⟩ := top_at (HR.out.later HJ.out.low) hx
      have HD := Lib.hid (own_does ask key v HJ.out (by have := run_len (l.take j); rw [List.length_take] at this; omega))
      have HE := Lib.hid (run_succ hx)
      have k0 : (0 : Int) ≤ (j : Int) := by omega
      have k1 : (j : Int) < (l.length : Int) := by omega
      clear hx
      go_wp2_with (go_at_call 30; refine HD.out.mono ?_; rintro e V2 ⟨rfl, h2⟩; have H2 := Lib.hid h2; clear h2)
      go_roundw
      case rel => exact ⟨j + 1, by omega, by go_num, Lib.hid (by rw [HE.out]; exact H2.out)⟩
      case measure => simp [intOf]; omega
    · obtain rfl : j = l.length := by omega
      go_wp2
      go_ret2
      have := HJ.out
      rw [List.take_length] at this
      exact ⟨b, r, rfl, this⟩
set_option maxHeartbeats 1000000 in
theorem short_any (s t : Str) (w : World) :
    Calls Try.prog 35 #[.agg #[.string ⟨s.toArray⟩, .string ⟨t.toArray⟩]] w fun e V => e = .returned (.bool (decide (s.length ≤ 300 ∧ t.length ≤ 300))) ∧ Below w.heap.size w V := by
  by_cases h1 : s.length ≤ 300
  · have h1i : (s.length : Int) ≤ 300 := by omega
    have hd : decide ((s.length : Int) ≤ 300) = true := decide_eq_true h1i
    have HE : Hid (decide (s.length ≤ 300 ∧ t.length ≤ 300) = decide ((t.length : Int) ≤ 300)) := Lib.hid (by
      by_cases h2 : t.length ≤ 300
      · rw [decide_eq_true ⟨h1, h2⟩, decide_eq_true (by omega)]
      · rw [decide_eq_false (fun h => h2 h.2), decide_eq_false (by omega)])
    go_enter Try.func35, Try.ntmps35
    go_wp2
    go_ret
    rw [HE.out]
    exact ⟨rfl, al1 w _⟩
  · have h1i : ¬ (s.length : Int) ≤ 300 := by omega
    have hd : decide ((s.length : Int) ≤ 300) = false := decide_eq_false h1i
    have HE : Hid (decide (s.length ≤ 300 ∧ t.length ≤ 300) = false) := Lib.hid (decide_eq_false (fun h => h1 h.1))
    go_enter Try.func35, Try.ntmps35
    go_wp2
    go_ret
    exact ⟨rfl, al1 w _⟩
set_option maxHeartbeats 1000000 in
theorem in_any (p : Pr) (s t : Str) (w : World) :
    Calls Try.prog 38 #[.string ⟨p.1.toArray⟩, .string ⟨s.toArray⟩, .string ⟨t.toArray⟩] w fun e V => e = .returned (.bool (inR s t p)) ∧ w = V := by
  obtain ⟨k, v⟩ := p
  have q1 := str_geq 9 k s
  have q2 : binOp .eql 9 (.string ⟨t.toArray⟩) (.string ⟨#[]⟩) = pure (.bool (t == [])) := str_eql 9 t []
  have q3 := str_lss 9 k t
  have hE : inR s t (k, v) = (!Op.bytesLess k s && (t == [] || Op.bytesLess k t)) := by
    unfold inR
    cases t with
    | nil => simp
    | cons y t => simp
  cases h1 : Op.bytesLess k s with
  | true =>
    rw [h1] at q1
    have HE : Hid (inR s t (k, v) = false) := Lib.hid (by rw [hE, h1]; rfl)
    clear hE h1
    go_enter Try.func38, Try.ntmps38
    go_wp2
    go_ret
    rw [HE.out]
    exact ⟨rfl, rfl⟩
  | false =>
    rw [h1] at q1
    cases h2 : t == [] with
    | true =>
      rw [h2] at q2
      have HE : Hid (inR s t (k, v) = true) := Lib.hid (by rw [hE, h1, h2]; rfl)
      clear hE h1 h2
      go_enter Try.func38, Try.ntmps38
      go_wp2
      go_ret
      rw [HE.out]
      exact ⟨rfl, rfl⟩
    | false =>
      rw [h2] at q2
      obtain ⟨r, hr⟩ : ∃ r, Op.bytesLess k t = r := ⟨_, rfl⟩
      rw [hr] at q3
      have HE : Hid (inR s t (k, v) = r) := Lib.hid (by rw [hE, h1, h2, hr]; rfl)
      clear hE h1 h2 hr
      go_enter Try.func38, Try.ntmps38
      go_wp2
      go_ret
      rw [HE.out]
      exact ⟨rfl, rfl⟩
end Go.Proofs.Ytbempjkkohjnbaa
