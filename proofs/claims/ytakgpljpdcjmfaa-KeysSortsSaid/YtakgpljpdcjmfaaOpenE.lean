/- An entry that comes in by value, opened; a text as a list. -/
import Derived.Test.YtakgpljpdcjmfaaKeysWalks3
import Derived.Test.YtakgpljpdcjmfaaOpen
namespace Go.Proofs.Ytakgpljpdcjmfaa
open Go.RowKit Go.WideShapes Go.ChangeShapes
section
variable {H : Type} {enc : TypeId × Value → H} {w : World} {base : Nat} {spare : Nat → Bool} {held : Bool}

theorem in_of_wf {n : Int} (h : (Lit.int .i64 n).wf = true) : Ky.In n := by
  simp [Lit.wf, IntKind.min, IntKind.max, IntKind.signed, IntKind.bits] at h
  unfold Ky.In
  omega
theorem text_list (s : ByteArray) : s = ⟨s.data.toList.toArray⟩ := by rw [Array.toArray_toList]
theorem entryCells : Try.prog.cellsOf 23 = 2 := by kernel_rfl

theorem open_entry {r : Reach} {b0 : Nat} {v : Value} {d : DataW H} {p : List MemPlace} (hv : Value.okWide Try.prog w r b0 23 v) (h : DataW.Trod enc Try.prog w base spare held 23 v d p) :
    ∃ (x : Int) (s : List UInt8), v = entV x s ∧ Ky.In x ∧ s.length ≤ maxLen := by
  obtain ⟨v0, v1, y0, y1, n, rfl, _, _, h0, h1⟩ := Go.Joins.open_agg2 Try.underlying23 (by kernel_rfl) entryCells hv h
  obtain ⟨x, e0, _, hw⟩ := DataW.trod_int Try.underlying3 h0
  obtain ⟨s, e1, _, hs⟩ := DataW.trod_string Try.underlying9 h1
  obtain rfl : v0 = _ := List.singleton_inj.1 e0
  obtain rfl : v1 = _ := List.singleton_inj.1 e1
  refine ⟨x, s.data.toList, congrArg (fun z => Value.agg #[.int .i64 x, .string z]) (text_list s), in_of_wf hw, ?_⟩
  have : s.data.toList.length = s.size := Array.length_toList
  omega
end
end Go.Proofs.Ytakgpljpdcjmfaa
