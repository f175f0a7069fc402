/- Joined: OpenB. -/
import Derived.Test.YtbempjkkohjnbaaYOpen
import Derived.Test.YtbempjkkohjnbaaYLaw31
import Derived.Deep.Strs
/- A slice of texts, opened. -/
namespace Go.Proofs.Ytbempjkkohjnbaa
open Go.RowKit Go.WideShapes Go.ChangeShapes
section
variable {H : Type} {enc : TypeId × Value → H} {w : World} {base : Nat} {spare : Nat → Bool} {held : Bool}
theorem rng_of_wf {n : Int} (h : (Lit.int .i64 n).wf = true) : -9223372036854775808 ≤ n ∧ n ≤ 9223372036854775807 := by
  simp [Lit.wf, IntKind.min, IntKind.max, IntKind.signed, IntKind.bits] at h
  omega
theorem strsV_one (L : List Tr.Str) : ∀ u ∈ strsV L, u.oneCell' = true := by
  intro u hu
  obtain ⟨p, _, rfl⟩ := List.mem_map.1 hu
  rfl
theorem open_strs_ {a : Option Addr} {len cap : Nat} {d : DataW H} {p : List MemPlace} (h : DataW.Trod enc Try.prog w base spare held 22 (.slice a len cap) d p) :
    ∃ L : List Tr.Str, len = L.length ∧ Rd w 1 a L.length cap (strsV L) := by
  obtain ⟨fuel, hf⟩ := h
  rcases Go.Deep.open_strs Try.underlying22 Try.underlying9 (by kernel_rfl) hf with ⟨hcs, _⟩ | ⟨x, l, c, m, Sx, hcs, _, hl, hm, hmm, _, hcell⟩
  · simp [Value.cells] at hcs
    obtain ⟨rfl, rfl, rfl⟩ := hcs
    exact ⟨[], rfl, Rd.nilSlice w 1⟩
  · simp [Value.cells] at hcs
    obtain ⟨rfl, rfl, rfl⟩ := hcs
    have hlm : len ≤ m := by rw [hmm]; split <;> omega
    have hlen : ((List.range len).map fun i => (Sx i).data.toList).length = len := by simp
    refine ⟨(List.range len).map fun i => (Sx i).data.toList, hlen.symm, ?_⟩
    rw [hlen]
    refine ⟨by rw [strsV_length, hlen]; omega, hl, hm, (fun h => by cases h), fun y hy j u hu => ?_, strsV_one _⟩
    cases hy
    have hj : j < len := by
      have := (List.getElem?_eq_some_iff.1 hu).1
      rwa [strsV_length, hlen] at this
    have hg : ((List.range len).map fun i => (Sx i).data.toList)[j]? = some (Sx j).data.toList := by
      rw [List.getElem?_map, List.getElem?_range hj]; rfl
    rw [strsV_get hg] at hu
    cases hu
    rw [(hcell j (by omega)).1]
end
end Go.Proofs.Ytbempjkkohjnbaa
