/- A slice of ops that comes in, opened to what it reads as. -/
import Derived.Test.YtgoegdlhbadlfaaDoorPr1
import Derived.Test.YtgoegdlhbadlfaaDoorProg
import Derived.Test.YtgoegdlhbadlfaaDoorOpenS
namespace Go.Proofs.YtgoegdlhbadlfaaDoor
namespace Pc
open Go.RowKit Go.WideShapes Go.ChangeShapes Go.Deep
section
variable {H : Type} {enc : TypeId × Value → H} {w : World} {base : Nat} {spare : Nat → Bool} {held : Bool}
theorem text_list2 (s : ByteArray) : s = ⟨s.data.toList.toArray⟩ := by rw [Array.toArray_toList]
theorem opCells : Tryd.prog.cellsOf 28 = 5 := by kernel_rfl
theorem opsV_get' {l : List OpP} {j : Nat} {u : Value} (h : (opsV l)[j]? = some u) : ∃ x, l[j / 5]? = some x ∧ (opV x)[j % 5]? = some u := by
  have hj : j < l.length * 5 := by
    have := (List.getElem?_eq_some_iff.1 h).1
    rwa [opsV_len] at this
  obtain ⟨x, hx⟩ : ∃ x, l[j / 5]? = some x := ⟨_, List.getElem?_eq_getElem (by omega)⟩
  refine ⟨x, hx, ?_⟩
  rw [← opsV_get hx (j % 5) (by omega), ← h]
  congr 1
  omega
theorem open_prop {a : Option Addr} {len cap : Nat} {d : DataW H} {p : List MemPlace} (h : DataW.Trod enc Tryd.prog w base spare held 22 (.slice a len cap) d p) :
    ∃ L : List OpP, len = L.length ∧ Rd w 5 a L.length cap (opsV L) := by
  obtain ⟨fuel, hf⟩ := h
  rcases open_rows Tryd.underlying22 Tryd.underlying28 (by kernel_rfl) opCells hf with ⟨rfl, rfl, rfl⟩ | ⟨x, rfl, hl, hm, hc⟩
  · exact ⟨[], rfl, Rd.nilSlice w 5⟩
  · have one : ∀ i, ∃ e : OpP, i < len → ∀ (k : Nat) u, (opV e)[k]? = some u → w.cell? (x.add (i * 5 + k)) = some u := by
      intro i
      by_cases hi : i < len
      · obtain ⟨v0, y0, n0, c0, t0⟩ := hc i hi 0 _ rfl
        obtain ⟨v1, y1, n1, c1, t1⟩ := hc i hi 1 _ rfl
        obtain ⟨v2, y2, n2, c2, t2⟩ := hc i hi 2 _ rfl
        obtain ⟨v3, y3, n3, c3, t3⟩ := hc i hi 3 _ rfl
        obtain ⟨v4, y4, n4, c4, t4⟩ := hc i hi 4 _ rfl
        obtain ⟨z0, e0, _, _⟩ := DataW.trod_int Tryd.underlying3 t0
        obtain ⟨z1, e1, _, _⟩ := DataW.trod_int Tryd.underlying3 t1
        obtain ⟨z2, e2, _, _⟩ := DataW.trod_int Tryd.underlying3 t2
        obtain ⟨z3, e3, _, _⟩ := DataW.trod_int Tryd.underlying3 t3
        obtain ⟨z4, e4, _, _⟩ := DataW.trod_int Tryd.underlying3 t4
        obtain rfl : v0 = _ := List.singleton_inj.1 e0
        obtain rfl : v1 = _ := List.singleton_inj.1 e1
        obtain rfl : v2 = _ := List.singleton_inj.1 e2
        obtain rfl : v3 = _ := List.singleton_inj.1 e3
        obtain rfl : v4 = _ := List.singleton_inj.1 e4
        refine ⟨(z0, z1, z2, z3, z4), fun _ k u hk => ?_⟩
        have hk5 : k < 5 := (List.getElem?_eq_some_iff.1 hk).1
        have : k = 0 ∨ k = 1 ∨ k = 2 ∨ k = 3 ∨ k = 4 := by omega
        rcases this with rfl | rfl | rfl | rfl | rfl <;> (simp [opV] at hk; subst hk; assumption)
      · exact ⟨(0, 0, 0, 0, 0), fun h => absurd h hi⟩
    let f := fun i => (one i).choose
    have hf : ∀ i, i < len → ∀ (k : Nat) u, (opV (f i))[k]? = some u → w.cell? (x.add (i * 5 + k)) = some u := fun i => (one i).choose_spec
    have hlen : ((List.range len).map f).length = len := by simp
    refine ⟨(List.range len).map f, hlen.symm, ?_⟩
    rw [hlen]
    refine ⟨by rw [opsV_len, hlen], hl, hm, (fun h => by cases h), fun y hy j u hu => ?_, opsV_one _⟩
    cases hy
    obtain ⟨e, he, hu2⟩ := opsV_get' hu
    have hj : j / 5 < len := by
      have := (List.getElem?_eq_some_iff.1 he).1
      rwa [hlen] at this
    rw [List.getElem?_map, List.getElem?_range hj] at he
    cases he
    have := hf (j / 5) hj (j % 5) u hu2
    rwa [show j / 5 * 5 + j % 5 = j by omega] at this
end
end Pc
end Go.Proofs.YtgoegdlhbadlfaaDoor
