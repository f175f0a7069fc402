/- The arguments of sched's laws, opened: []int, []sched.Act. -/
import Derived.Test.YtpfcghigfkhimaaOpenS
import Derived.Test.YtpfcghigfkhimaaSched8
namespace Go.Proofs.Ytpfcghigfkhimaa
open Go.RowKit Go.WideShapes Go.ChangeShapes
section
variable {H : Type} {enc : TypeId × Value → H} {w : World} {base : Nat} {spare : Nat → Bool} {held : Bool}
theorem rng_of_wf {n : Int} (h : (Lit.int .i64 n).wf = true) : -9223372036854775808 ≤ n ∧ n ≤ 9223372036854775807 := by
  simp [Lit.wf, IntKind.min, IntKind.max, IntKind.signed, IntKind.bits] at h
  omega
theorem actCells : Try.prog.cellsOf 35 = 3 := by kernel_rfl
theorem actsV_length (L : List ActT) : (actsV L).length = L.length * 3 := by
  induction L with
  | nil => rfl
  | cons x L ih =>
    have : actsV (x :: L) = [.int .i64 x.1, .int .i64 x.2.1, .int .i64 x.2.2] ++ actsV L := by simp [actsV]
    rw [this, List.length_append, ih, List.length_cons]
    simp
    omega
theorem actsV_get {L : List ActT} {j : Nat} {x : ActT} (hj : L[j]? = some x) : (actsV L)[j * 3]? = some (.int .i64 x.1) ∧ (actsV L)[j * 3 + 1]? = some (.int .i64 x.2.1) ∧ (actsV L)[j * 3 + 2]? = some (.int .i64 x.2.2) := by
  induction L generalizing j with
  | nil => simp at hj
  | cons y L ih =>
    have hy : actsV (y :: L) = [.int .i64 y.1, .int .i64 y.2.1, .int .i64 y.2.2] ++ actsV L := by simp [actsV]
    match j with
    | 0 =>
      simp at hj
      subst hj
      rw [hy]
      simp
    | j + 1 =>
      obtain ⟨h0, h1, h2⟩ := ih (j := j) (by simpa using hj)
      rw [hy]
      refine ⟨?_, ?_, ?_⟩
      · rw [List.getElem?_append_right (by simp; omega)]; rw [← h0]; congr 1; simp; omega
      · rw [List.getElem?_append_right (by simp; omega)]; rw [← h1]; congr 1; simp; omega
      · rw [List.getElem?_append_right (by simp; omega)]; rw [← h2]; congr 1; simp; omega

theorem open_ints_ {a : Option Addr} {len cap : Nat} {d : DataW H} {p : List MemPlace} (h : DataW.Trod enc Try.prog w base spare held 22 (.slice a len cap) d p) :
    ∃ L : List Int, len = L.length ∧ Rd w 1 a L.length cap (intsV L) ∧ WfI L := by
  obtain ⟨fuel, hf⟩ := h
  rcases open_ints Try.underlying22 Try.underlying3 (by kernel_rfl) hf with ⟨hcs, _⟩ | ⟨x, l, c, zs, hcs, _, hl, hm, hz, _, hcell, hwz⟩
  · simp [Value.cells] at hcs
    obtain ⟨rfl, rfl, rfl⟩ := hcs
    exact ⟨[], rfl, Rd.nilSlice w 1, fun _ h => by cases h⟩
  · simp [Value.cells] at hcs
    obtain ⟨rfl, rfl, rfl⟩ := hcs
    have hzl : len ≤ zs.length := by rw [hz]; split <;> omega
    have htl : (zs.take len).length = len := by rw [List.length_take]; omega
    refine ⟨zs.take len, htl.symm, ?_, fun i hi => hwz i (List.mem_of_mem_take hi)⟩
    rw [htl]
    refine ⟨by rw [intsV_length, htl]; omega, hl, hm, (fun h => by cases h), fun y hy j u hu => ?_, intsV_one _⟩
    cases hy
    unfold intsV at hu
    rw [List.getElem?_map] at hu
    cases hg : (zs.take len)[j]? with
    | none => rw [hg] at hu; cases hu
    | some i =>
      rw [hg] at hu
      cases hu
      have hjl := (List.getElem?_eq_some_iff.1 hg).1
      rw [hcell j (by omega), List.getD_eq_getElem?_getD]
      rw [List.getElem?_take] at hg
      split at hg
      · rw [hg]; rfl
      · cases hg
theorem open_acts {a : Option Addr} {len cap : Nat} {d : DataW H} {p : List MemPlace} (h : DataW.Trod enc Try.prog w base spare held 29 (.slice a len cap) d p) :
    ∃ L : List ActT, len = L.length ∧ Rd w 3 a L.length cap (actsV L) := by
  obtain ⟨fuel, hf⟩ := h
  rcases open_rows Try.underlying29 Try.underlying35 (by kernel_rfl) actCells hf with ⟨rfl, rfl, rfl⟩ | ⟨x, rfl, hl, hm, hc⟩
  · exact ⟨[], rfl, Rd.nilSlice w 3⟩
  · have one : ∀ i, ∃ e : ActT, i < len → w.cell? (x.add (i * 3)) = some (.int .i64 e.1) ∧ w.cell? (x.add (i * 3 + 1)) = some (.int .i64 e.2.1) ∧ w.cell? (x.add (i * 3 + 2)) = some (.int .i64 e.2.2) := by
      intro i
      by_cases hi : i < len
      · obtain ⟨v0, y0, n0, c0, t0⟩ := hc i hi 0 _ rfl
        obtain ⟨v1, y1, n1, c1, t1⟩ := hc i hi 1 _ rfl
        obtain ⟨v2, y2, n2, c2, t2⟩ := hc i hi 2 _ rfl
        obtain ⟨z0, e0, _, hw0⟩ := DataW.trod_int Try.underlying3 t0
        obtain ⟨z1, e1, _, hw1⟩ := DataW.trod_int Try.underlying3 t1
        obtain ⟨z2, e2, _, hw2⟩ := DataW.trod_int Try.underlying3 t2
        obtain rfl : v0 = _ := List.singleton_inj.1 e0
        obtain rfl : v1 = _ := List.singleton_inj.1 e1
        obtain rfl : v2 = _ := List.singleton_inj.1 e2
        exact ⟨(z0, z1, z2), fun _ => ⟨c0, c1, c2⟩⟩
      · exact ⟨(0, 0, 0), fun h => absurd h hi⟩
    let f := fun i => (one i).choose
    have hf : ∀ i, i < len → w.cell? (x.add (i * 3)) = some (.int .i64 (f i).1) ∧ w.cell? (x.add (i * 3 + 1)) = some (.int .i64 (f i).2.1) ∧ w.cell? (x.add (i * 3 + 2)) = some (.int .i64 (f i).2.2) := fun i => (one i).choose_spec
    have hlen : ((List.range len).map f).length = len := by simp
    refine ⟨(List.range len).map f, hlen.symm, ?_⟩
    rw [hlen]
    refine ⟨by rw [actsV_length, hlen], hl, hm, (fun h => by cases h), fun y hy j u hu => ?_, actsV_one _⟩
    cases hy
    have hj : j < len * 3 := by
      have := (List.getElem?_eq_some_iff.1 hu).1
      rwa [actsV_length, hlen] at this
    have hg : ((List.range len).map f)[j / 3]? = some (f (j / 3)) := by
      rw [List.getElem?_map, List.getElem?_range (by omega)]; rfl
    obtain ⟨g0, g1, g2⟩ := actsV_get hg
    have hfj := hf (j / 3) (by omega)
    have hm3 : j % 3 = 0 ∨ j % 3 = 1 ∨ j % 3 = 2 := by omega
    rcases hm3 with h3 | h3 | h3
    · have hje : j = j / 3 * 3 := by omega
      rw [hje] at hu ⊢
      rw [g0] at hu
      rw [← hu]
      exact hfj.1
    · have hje : j = j / 3 * 3 + 1 := by omega
      rw [hje] at hu ⊢
      rw [g1] at hu
      rw [← hu]
      exact hfj.2.1
    · have hje : j = j / 3 * 3 + 2 := by omega
      rw [hje] at hu ⊢
      rw [g2] at hu
      rw [← hu]
      exact hfj.2.2
end
end Go.Proofs.Ytpfcghigfkhimaa
