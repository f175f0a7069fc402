/- Package proc: parse, plain; strings.SplitN in a plain form; an op in a block of its own. -/
import Derived.Test.YtgoegdlhbadlfaaDoorPr9
namespace Go.Proofs.YtgoegdlhbadlfaaDoor
namespace Pc
open Go.RowKit
def setF (x : OpP) : Nat → Int → OpP
  | 0, v => (x.1, v, x.2.2.1, x.2.2.2.1, x.2.2.2.2)
  | 1, v => (x.1, x.2.1, v, x.2.2.2.1, x.2.2.2.2)
  | 2, v => (x.1, x.2.1, x.2.2.1, v, x.2.2.2.2)
  | _, v => (x.1, x.2.1, x.2.2.1, x.2.2.2.1, v)
/-- What a line is cut into. -/
def partsP (s : Str) : List Str := Lib.splitK [32] 0 (min 6 (s.length + 1) - 1) s
def parseF : List Nat → List Str → OpP → Option OpP
  | [], _, x => some x
  | f :: fs, p :: ps, x => (numP p).bind fun v => parseF fs ps (setF x f v)
  | _ :: _, [], _ => none
/-- The op of what a line is cut into. -/
def partsOp : List Str → Option OpP
  | [] => none
  | p :: ps => if namedP p = 0 then none else if ps.length = (hasN (namedP p)).length then parseF (hasN (namedP p)) ps ((namedP p : Int), 0, 0, 0, 0) else none
/-- The op of a line. -/
def parseP (line : Str) : Option OpP := if Lib.hasSuffix line [10] = true then partsOp (partsP (Lib.trimSuffix line [10])) else none
/-- An op in a block of its own. -/
def BoxAt (w : World) (P : Nat) (x : OpP) : Prop := w.heap[P]? = some (.cells (opV x).toArray 28 (0, 0))
theorem BoxAt.op {w : World} {P : Nat} {x : OpP} (h : BoxAt w P x) : OpAt w P x := by
  intro i u hi hu
  unfold BoxAt at h
  simp [World.cell?, h]
  simpa using hu
theorem BoxAt.free {w : World} {P : Nat} {x : OpP} (h : BoxAt w P x) {i : Nat} (hi : i < 5) : w.frozen? ⟨P, i, none⟩ = false := by
  unfold BoxAt at h
  simp [World.frozen?, h]
theorem opV_set (x : OpP) {f : Nat} (hf : f < 4) (v : Int) : (opV x).set (f + 1) (.int .i64 v) = opV (setF x f v) := by
  have : f = 0 ∨ f = 1 ∨ f = 2 ∨ f = 3 := by omega
  rcases this with rfl | rfl | rfl | rfl <;> rfl
theorem BoxAt.set {w : World} {P : Nat} {x : OpP} (h : BoxAt w P x) {f : Nat} (hf : f < 4) (v : Int) : BoxAt (w.setCell ⟨P, f + 1, none⟩ (.int .i64 v)) P (setF x f v) := by
  unfold BoxAt at *
  have hlt : P < w.heap.size := (Array.getElem?_eq_some_iff.1 h).1
  rw [← opV_set x hf v]
  simp [World.setCell, Array.getElem?_modify, h]
theorem BoxAt.later {w W : World} {P : Nat} {x : OpP} (h : BoxAt w P x) {B : Nat} (hb : Below B w W) (hP : P < B) : BoxAt W P x := (hb.block P hP).trans h
end Pc
end Go.Proofs.YtgoegdlhbadlfaaDoor
