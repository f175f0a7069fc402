/- The ops of package field's laws, opened. -/
import Derived.Test.YtapjdcofnigjhaaOpenS
import Derived.Test.YtapjdcofnigjhaaField15
namespace Go.Proofs.Ytapjdcofnigjhaa
open Go.RowKit Go.WideShapes Go.ChangeShapes
section
variable {H : Type} {enc : TypeId × Value → H} {w : World} {base : Nat} {spare : Nat → Bool} {held : Bool}
theorem text_list2 (s : ByteArray) : s = ⟨s.data.toList.toArray⟩ := by rw [Array.toArray_toList]
theorem fd_of_wf {n : Int} (h : (Lit.int .i64 n).wf = true) : Fd.In n := by
  simp [Lit.wf, IntKind.min, IntKind.max, IntKind.signed, IntKind.bits] at h
  exact h
theorem fopCells : Try.prog.cellsOf 53 = 3 := by kernel_rfl
theorem open_fops {a : Option Addr} {len cap : Nat} {d : DataW H} {p : List MemPlace} (h : DataW.Trod enc Try.prog w base spare held 47 (.slice a len cap) d p) :
    ∃ L : List FOp, len = L.length ∧ Rd w 3 a L.length cap (fopsV L) ∧ ∀ x ∈ L, OkOp x := by
  obtain ⟨fuel, hf⟩ := h
  rcases open_rows Try.underlying47 Try.underlying53 (by kernel_rfl) fopCells hf with ⟨rfl, rfl, rfl⟩ | ⟨x, rfl, hl, hm, hc⟩
  · exact ⟨[], rfl, Rd.nilSlice w 3, fun _ h => by cases h⟩
  · have one : ∀ i, ∃ e : FOp, i < len → w.cell? (x.add (i * 3)) = some (.int .i64 e.1) ∧ w.cell? (x.add (i * 3 + 1)) = some (.int .i64 e.2.1) ∧ w.cell? (x.add (i * 3 + 2)) = some (.string ⟨e.2.2.toArray⟩) ∧ OkOp e := by
      intro i
      by_cases hi : i < len
      · obtain ⟨v0, y0, n0, c0, t0⟩ := hc i hi 0 _ rfl
        obtain ⟨v1, y1, n1, c1, t1⟩ := hc i hi 1 _ rfl
        obtain ⟨v2, y2, n2, c2, t2⟩ := hc i hi 2 _ rfl
        obtain ⟨z0, e0, _, hw0⟩ := DataW.trod_int Try.underlying3 t0
        obtain ⟨z1, e1, _, hw1⟩ := DataW.trod_int Try.underlying3 t1
        obtain ⟨s, e2, _, hs⟩ := DataW.trod_string Try.underlying9 t2
        obtain rfl : v0 = _ := List.singleton_inj.1 e0
        obtain rfl : v1 = _ := List.singleton_inj.1 e1
        obtain rfl : v2 = _ := List.singleton_inj.1 e2
        refine ⟨(z0, z1, s.data.toList), fun _ => ⟨c0, c1, ?_, fd_of_wf hw1, ?_⟩⟩
        · rw [← text_list2 s]
          exact c2
        · have : s.data.toList.length = s.size := by simp
          rw [this]
          exact hs
      · exact ⟨(0, 0, []), fun h => absurd h hi⟩
    let f := fun i => (one i).choose
    have hf : ∀ i, i < len → w.cell? (x.add (i * 3)) = some (.int .i64 (f i).1) ∧ w.cell? (x.add (i * 3 + 1)) = some (.int .i64 (f i).2.1) ∧ w.cell? (x.add (i * 3 + 2)) = some (.string ⟨(f i).2.2.toArray⟩) ∧ OkOp (f i) := fun i => (one i).choose_spec
    have hlen : ((List.range len).map f).length = len := by simp
    refine ⟨(List.range len).map f, hlen.symm, ?_, fun x hx => by
      obtain ⟨i, hi, rfl⟩ := List.mem_map.1 hx
      exact (hf i (List.mem_range.1 hi)).2.2.2⟩
    rw [hlen]
    refine ⟨by rw [fopsV_length, hlen], hl, hm, (fun h => by cases h), fun y hy j u hu => ?_, fopsV_one _⟩
    cases hy
    have hj : j < len * 3 := by
      have := (List.getElem?_eq_some_iff.1 hu).1
      rwa [fopsV_length, hlen] at this
    have hg : ((List.range len).map f)[j / 3]? = some (f (j / 3)) := by
      rw [List.getElem?_map, List.getElem?_range (by omega)]; rfl
    obtain ⟨g0, g1, g2⟩ := fopsV_get hg
    have hfj := hf (j / 3) (by omega)
    have hm3 : j % 3 = 0 ∨ j % 3 = 1 ∨ j % 3 = 2 := by omega
    rcases hm3 with h3 | h3 | h3
    · have hje : j = j / 3 * 3 := by omega
      rw [hje] at hu ⊢
      rw [g0] at hu
      rw [← hu]
      exact hfj.1
    · have hje : j = j / 3 * 3 + 1 := by omega
      rw [hje] at hu ⊢
      rw [g1] at hu
      rw [← hu]
      exact hfj.2.1
    · have hje : j = j / 3 * 3 + 2 := by omega
      rw [hje] at hu ⊢
      rw [g2] at hu
      rw [← hu]
      exact hfj.2.2.1
end
end Go.Proofs.Ytapjdcofnigjhaa
