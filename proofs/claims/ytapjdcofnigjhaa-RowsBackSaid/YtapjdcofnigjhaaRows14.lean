/- Rows of bytes, read: plain lists; rows.Decode. -/
import Derived.Test.YtapjdcofnigjhaaField17
import Derived.Test.YtapjdcofnigjhaaRows6
namespace Go.Proofs.Ytapjdcofnigjhaa
open Go.RowKit
namespace Fd
/-- The first k numbers of bytes, and where they end. -/
def dec (B : List UInt8) : Nat → Option (Nat × List Int)
  | 0 => some (0, [])
  | k + 1 => match dec B k with
    | none => none
    | some p => match parse 0 (B.drop p.1) with
      | none => none
      | some q => some (p.1 + q.2, p.2 ++ [zag q.1])
theorem dec_none {B : List UInt8} {k : Nat} (h : dec B k = none) (j : Nat) : dec B (k + j) = none := by
  induction j with
  | zero => exact h
  | succ j ih => rw [← Nat.add_assoc, dec, ih]
theorem dec_stop {B : List UInt8} {k at_ : Nat} {l : List Int} (h : dec B k = some (at_, l)) (hp : parse 0 (B.drop at_) = none) (hk : k < 4) : dec B 4 = none := by
  have h1 : dec B (k + 1) = none := by rw [dec, h]; simp only; rw [hp]
  have := dec_none h1 (3 - k)
  rwa [show k + 1 + (3 - k) = 4 by omega] at this
theorem dec_next {B : List UInt8} {k at_ : Nat} {l : List Int} {m c : Nat} (h : dec B k = some (at_, l)) (hp : parse 0 (B.drop at_) = some (m, c)) : dec B (k + 1) = some (at_ + c, l ++ [zag m]) := by
  rw [dec, h]; simp only; rw [hp]
/-- All of the bytes, as four numbers. -/
def row (B : List UInt8) : Option (List Int) := match dec B 4 with
  | none => none
  | some p => if p.1 = B.length then some p.2 else none
def rowL : Option (List Int) → List Int
  | none => []
  | some l => l
theorem row_none {B : List UInt8} (h : dec B 4 = none) : row B = none := by unfold row; rw [h]
theorem row_some {B : List UInt8} {at_ : Nat} {l : List Int} (h : dec B 4 = some (at_, l)) (e : at_ = B.length) : row B = some l := by unfold row; rw [h]; exact if_pos e
theorem row_more {B : List UInt8} {at_ : Nat} {l : List Int} (h : dec B 4 = some (at_, l)) (e : at_ ≠ B.length) : row B = none := by unfold row; rw [h]; exact if_neg e
end Fd
theorem getD_snoc (l : List Int) (v : Int) (i : Nat) : (l ++ [v]).getD i 0 = if i = l.length then v else l.getD i 0 := by
  simp only [List.getD_eq_getElem?_getD]
  by_cases h : i < l.length
  · rw [List.getElem?_append_left h, if_neg (by omega)]
  · by_cases h2 : i = l.length
    · subst h2
      rw [if_pos rfl, List.getElem?_append_right (Nat.le_refl _), Nat.sub_self]
      rfl
    · rw [if_neg h2, List.getElem?_eq_none (by simp; omega), List.getElem?_eq_none (by omega)]
/-- Four numbers, a row. -/
def lRow (l : List Int) : Value := .agg #[.int .i64 (l.getD 0 0), .int .i64 (l.getD 1 0), .int .i64 (l.getD 2 0), .int .i64 (l.getD 3 0)]
/-- A row's variable: its cells, not frozen. -/
def RowVar (w : World) (r : Nat) (l : List Int) : Prop := ∀ i, i < 4 → w.cell? ⟨r, i, none⟩ = some (.int .i64 (l.getD i 0)) ∧ w.frozen? ⟨r, i, none⟩ = false
theorem RowVar.fr {S : Foot} {w w' : World} {r : Nat} {l : List Int} (h : RowVar w r l) (hf : Fr S w w') (hs : ∀ o, ¬ S r o) : RowVar w' r l := fun i hi =>
  ⟨cell_fr hf (h i hi).1 (hs i), (hf.froz r i (block_of_cell (h i hi).1) (hs i)).trans (h i hi).2⟩
theorem RowVar.later {w w' : World} {r : Nat} {l : List Int} (h : RowVar w r l) (hb : Below w.heap.size w w') : RowVar w' r l := h.fr (Fr.ofBelow hb noCells) (fun _ h => h)
theorem RowVar.made (w : World) (t : TypeId) : RowVar (w.alloc (.cells #[.int .i64 0, .int .i64 0, .int .i64 0, .int .i64 0] t)) w.heap.size [] := fun i hi => by
  have : i = 0 ∨ i = 1 ∨ i = 2 ∨ i = 3 := by omega
  rcases this with rfl | rfl | rfl | rfl <;> exact ⟨by simp, by simp⟩
theorem RowVar.put {w : World} {r : Nat} {l : List Int} (h : RowVar w r l) (hl : l.length < 4) (v : Int) : RowVar (w.setCell ⟨r, l.length, none⟩ (.int .i64 v)) r (l ++ [v]) ∧ Fr (fun k _ => k = r) w (w.setCell ⟨r, l.length, none⟩ (.int .i64 v)) := by
  have hf : Fr (fun k o => k = r ∧ o = l.length) w (w.setCell ⟨r, l.length, none⟩ (.int .i64 v)) := (Fr.refl _ w).setCell (.inl ⟨rfl, rfl⟩) _
  refine ⟨fun i hi => ⟨?_, by rw [World.frozen?_setCell]; exact (h i hi).2⟩, hf.mono (fun _ _ h => h.1)⟩
  rw [getD_snoc]
  by_cases e : i = l.length
  · subst e
    rw [if_pos rfl]
    exact World.cell?_setCell_same _ _ _ (h l.length hi).1
  · rw [if_neg e]
    exact cell_fr hf (h i hi).1 (fun h => e h.2)
end Go.Proofs.Ytapjdcofnigjhaa
