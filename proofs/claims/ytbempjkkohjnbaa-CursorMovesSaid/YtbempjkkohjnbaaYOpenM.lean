/- Joined: OpenM. -/
import Derived.Test.YtbempjkkohjnbaaYOpen
import Derived.Test.YtbempjkkohjnbaaYLaw26
/- The moves of package cursor's laws, opened. -/
namespace Go.Proofs.Ytbempjkkohjnbaa
open Go.RowKit Go.WideShapes Go.ChangeShapes Go.Deep
section
variable {H : Type} {enc : TypeId × Value → H} {P : Program} {w : World} {base : Nat} {spare : Nat → Bool} {held : Bool}
theorem open_elems {t e : TypeId} {fuel : Nat} {a0 : Option Addr} {len cap : Nat} {x : DataW H × List MemPlace} (ht : P.underlying t = some (.slice e))
    (h : DataW.trod enc P w base spare held fuel t [.slice a0 len cap] = some x) :
    (a0 = none ∧ len = 0 ∧ cap = 0) ∨
    ∃ a, a0 = some a ∧ len ≤ cap ∧ cap ≤ maxLen ∧
      ∀ i, i < len → ∃ (cs : List Value) (y : DataW H × List MemPlace) (n : Nat), cs.length = P.cellsOf e ∧ (∀ j (hj : j < P.cellsOf e), w.cell? (a.add (i * P.cellsOf e + j)) = cs[j]?) ∧ DataW.trod enc P w base spare held n e cs = some y := by
  rcases open_slice ht h with ⟨h0, _⟩ | ⟨a, l2, c2, m, n, D, Pl, hcs, hb, hl, hm, hmm, hx, hi⟩
  · simp only [List.cons.injEq, Value.slice.injEq, and_true] at h0
    exact .inl h0
  · simp only [List.cons.injEq, Value.slice.injEq, and_true] at hcs
    obtain ⟨rfl, rfl, rfl⟩ := hcs
    refine .inr ⟨a, rfl, hl, hm, fun i hlt => ?_⟩
    have him : i < m := by
      rw [hmm]
      split <;> omega
    obtain ⟨cs', hc, ht'⟩ := hi i him
    obtain ⟨_, hcl, hat⟩ := World.cells?_some hc
    exact ⟨cs', _, _, hcl, fun j hj => by rw [← Go.Deep.add_add]; exact hat j hj, ht'⟩
end
section
variable {H : Type} {enc : TypeId × Value → H} {w : World} {base : Nat} {spare : Nat → Bool} {held : Bool}
theorem mv4_of {cs : List Value} (h : cs.length = 4) : ∃ a b c d, cs = [a, b, c, d] := by
  match cs, h with
  | [a, b, c, d], _ => exact ⟨a, b, c, d, rfl⟩
theorem moveCells : Try.prog.cellsOf 79 = 4 := by kernel_rfl
set_option maxRecDepth 100000 in
theorem move_of_trod {n : Nat} {cs : List Value} {y : DataW H × List MemPlace} (hl : cs.length = 4) (h : DataW.trod enc Try.prog w base spare held n 79 cs = some y) :
    ∃ x : MOp, cs = [.int .i64 x.1, .int .i64 x.2.1, .string ⟨x.2.2.1.toArray⟩, .string ⟨x.2.2.2.toArray⟩] ∧ OkMove x := by
  have hI : Try.prog.cellsOf 3 = 1 := by kernel_rfl
  have hS : Try.prog.cellsOf 9 = 1 := by kernel_rfl
  obtain ⟨v0, v1, v2, v3, rfl⟩ := mv4_of hl
  obtain ⟨xs, k, _, hx, _, hlen, hg⟩ := DataW.trod_struct Try.underlying79 h
  match xs, hlen with
  | [y0, y1], _ =>
    have g0 := hg 0 _ rfl
    have g1 := hg 1 _ rfl
    simp [hI, topCells] at g0 g1
    obtain ⟨z0, e0, _, _⟩ := DataW.trod_int Try.underlying3 g0
    obtain rfl : v0 = _ := List.singleton_inj.1 e0
    obtain ⟨xs, k2, _, hx2, _, hlen2, hg2⟩ := DataW.trod_struct Try.underlying58 g1
    match xs, hlen2 with
    | [y2, y3, y4], _ =>
      have g2 := hg2 0 _ rfl
      have g3 := hg2 1 _ rfl
      have g4 := hg2 2 _ rfl
      simp [hI, hS] at g2 g3 g4
      obtain ⟨z1, e1, _, _⟩ := DataW.trod_int Try.underlying3 g2
      obtain ⟨s1, e2, _, hs1⟩ := DataW.trod_string Try.underlying9 g3
      obtain ⟨s2, e3, _, hs2⟩ := DataW.trod_string Try.underlying9 g4
      obtain rfl : v1 = _ := List.singleton_inj.1 e1
      obtain rfl : v2 = _ := List.singleton_inj.1 e2
      obtain rfl : v3 = _ := List.singleton_inj.1 e3
      refine ⟨(z0, z1, s1.data.toList, s2.data.toList), ?_, ?_, ?_⟩
      · rw [← text_list2 s1, ← text_list2 s2]
      · have : s1.data.toList.length = s1.size := by simp
        rw [this]
        exact hs1
      · have : s2.data.toList.length = s2.size := by simp
        rw [this]
        exact hs2
set_option maxRecDepth 100000 in
theorem open_moves {a : Option Addr} {len cap : Nat} {d : DataW H} {p : List MemPlace} (h : DataW.Trod enc Try.prog w base spare held 77 (.slice a len cap) d p) :
    ∃ L : List MOp, len = L.length ∧ Rd w 4 a L.length cap (movesV L) ∧ ∀ x ∈ L, OkMove x := by
  obtain ⟨fuel, hf⟩ := h
  rcases open_elems Try.underlying77 hf with ⟨rfl, rfl, rfl⟩ | ⟨x, rfl, hl, hm, hc⟩
  · exact ⟨[], rfl, Rd.nilSlice w 4, fun _ h => by cases h⟩
  · rw [moveCells] at hc
    have one : ∀ i, ∃ e : MOp, i < len → (∀ j, j < 4 → w.cell? (x.add (i * 4 + j)) = ([.int .i64 e.1, .int .i64 e.2.1, .string ⟨e.2.2.1.toArray⟩, .string ⟨e.2.2.2.toArray⟩] : List Value)[j]?) ∧ OkMove e := by
      intro i
      by_cases hi : i < len
      · obtain ⟨cs, y, n, h1, h2, h3⟩ := hc i hi
        obtain ⟨e, rfl, ho⟩ := move_of_trod h1 h3
        exact ⟨e, fun _ => ⟨h2, ho⟩⟩
      · exact ⟨(0, 0, [], []), fun h => absurd h hi⟩
    let f := fun i => (one i).choose
    have hf : ∀ i, i < len → (∀ j, j < 4 → w.cell? (x.add (i * 4 + j)) = ([.int .i64 (f i).1, .int .i64 (f i).2.1, .string ⟨(f i).2.2.1.toArray⟩, .string ⟨(f i).2.2.2.toArray⟩] : List Value)[j]?) ∧ OkMove (f i) := fun i => (one i).choose_spec
    have hlen : ((List.range len).map f).length = len := by simp
    refine ⟨(List.range len).map f, hlen.symm, ?_, fun x hx => by
      obtain ⟨i, hi, rfl⟩ := List.mem_map.1 hx
      exact (hf i (List.mem_range.1 hi)).2⟩
    rw [hlen]
    refine ⟨by rw [movesV_length, hlen], hl, hm, (fun h => by cases h), fun y hy j u hu => ?_, movesV_one _⟩
    cases hy
    have hj : j < len * 4 := by
      have := (List.getElem?_eq_some_iff.1 hu).1
      rwa [movesV_length, hlen] at this
    have hg : ((List.range len).map f)[j / 4]? = some (f (j / 4)) := by
      rw [List.getElem?_map, List.getElem?_range (by omega)]; rfl
    obtain ⟨g0, g1, g2, g3⟩ := movesV_get hg
    have hfj := (hf (j / 4) (by omega)).1
    have hm4 : j % 4 = 0 ∨ j % 4 = 1 ∨ j % 4 = 2 ∨ j % 4 = 3 := by omega
    rcases hm4 with h3 | h3 | h3 | h3
    · have hje : j = j / 4 * 4 := by omega
      rw [hje] at hu ⊢
      rw [g0] at hu
      rw [← hu]
      exact hfj 0 (by omega)
    · have hje : j = j / 4 * 4 + 1 := by omega
      rw [hje] at hu ⊢
      rw [g1] at hu
      rw [← hu]
      exact hfj 1 (by omega)
    · have hje : j = j / 4 * 4 + 2 := by omega
      rw [hje] at hu ⊢
      rw [g2] at hu
      rw [← hu]
      exact hfj 2 (by omega)
    · have hje : j = j / 4 * 4 + 3 := by omega
      rw [hje] at hu ⊢
      rw [g3] at hu
      rw [← hu]
      exact hfj 3 (by omega)
end
end Go.Proofs.Ytbempjkkohjnbaa
