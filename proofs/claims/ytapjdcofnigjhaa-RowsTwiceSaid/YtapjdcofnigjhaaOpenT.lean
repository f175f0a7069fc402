/- A turn that comes in. -/
import Derived.Test.YtapjdcofnigjhaaOpenR
import Derived.Test.YtapjdcofnigjhaaRows8
namespace Go.Proofs.Ytapjdcofnigjhaa
open Go.RowKit Go.WideShapes Go.ChangeShapes

section
variable {H : Type} {enc : TypeId × Value → H} {w : World} {base : Nat} {spare : Nat → Bool} {held : Bool}
theorem row_of_trod {fuel : Nat} {c0 c1 c2 c3 : Value} {x : DataW H × List MemPlace} (h : DataW.trod enc Try.prog w base spare held fuel 23 [c0, c1, c2, c3] = some x) :
    ∃ a b c d : Int, c0 = .int .i64 a ∧ c1 = .int .i64 b ∧ c2 = .int .i64 c ∧ c3 = .int .i64 d ∧ InR (rowF a b c d) := by
  have hce : Try.prog.cellsOf 3 = 1 := by kernel_rfl
  obtain ⟨xs, m, _, _, hl, hx, hel⟩ := DataW.trod_array Try.underlying23 h
  have one : ∀ (i : Nat) (u : Value), [c0, c1, c2, c3][i]? = some u → ∃ n, u = .int .i64 n ∧ (Lit.int .i64 n).wf = true := by
    intro i u hu
    have hi : i < 4 := (List.getElem?_eq_some_iff.1 hu).1
    have h1 := hel i hi
    rw [hce, Nat.mul_one] at h1
    have h2 : ([c0, c1, c2, c3].drop i).take 1 = [u] := by
      rw [List.take_one, List.head?_drop, hu]; rfl
    rw [h2] at h1
    obtain ⟨y, hy⟩ : ∃ y, xs[i]? = some y := ⟨_, List.getElem?_eq_getElem (by omega)⟩
    rw [hy] at h1
    obtain ⟨n, e1, _, e3⟩ := DataW.trod_int Try.underlying3 h1
    simp at e1
    exact ⟨n, e1, e3⟩
  obtain ⟨n0, rfl, w0⟩ := one 0 c0 rfl
  obtain ⟨n1, rfl, w1⟩ := one 1 c1 rfl
  obtain ⟨n2, rfl, w2⟩ := one 2 c2 rfl
  obtain ⟨n3, rfl, w3⟩ := one 3 c3 rfl
  exact ⟨n0, n1, n2, n3, rfl, rfl, rfl, rfl, rowF_in (fin_of_wf w0) (fin_of_wf w1) (fin_of_wf w2) (fin_of_wf w3)⟩
theorem open_turn {r : Reach} {b0 : Nat} {v : Value} {d : DataW H} {p : List MemPlace} (hv : Value.okWide Try.prog w r b0 30 v) (h : DataW.Trod enc Try.prog w base spare held 30 v d p) :
    ∃ (a0 a1 a2 a3 : Int) (had : Bool) (b0 b1 b2 b3 : Int) (has : Bool), v = turnV a0 a1 a2 a3 had b0 b1 b2 b3 has ∧ InR (rowF a0 a1 a2 a3) ∧ InR (rowF b0 b1 b2 b3) := by
  have hC : Try.prog.cellsOf 30 = 10 := by kernel_rfl
  have hR : Try.prog.cellsOf 23 = 4 := by kernel_rfl
  have hB : Try.prog.cellsOf 4 = 1 := by kernel_rfl
  obtain ⟨cs, rfl, hsz⟩ := okWide_struct Try.underlying30 hv
  obtain ⟨l⟩ := cs
  match l, hsz.trans hC with
  | [c0, c1, c2, c3, c4, c5, c6, c7, c8, c9], _ =>
    obtain ⟨fuel, hf⟩ := h
    obtain ⟨xs, n, _, hx, _, hlen, hg⟩ := DataW.trod_struct Try.underlying30 hf
    match xs, hlen with
    | [y0, y1, y2, y3], _ =>
      have g0 := hg 0 _ rfl
      have g1 := hg 1 _ rfl
      have g2 := hg 2 _ rfl
      have g3 := hg 3 _ rfl
      simp only [Value.cells, hR, hB] at g0 g1 g2 g3
      simp at g0 g1 g2 g3
      obtain ⟨a, b, c, d, rfl, rfl, rfl, rfl, i0⟩ := row_of_trod g0
      obtain ⟨a', b', c', d', rfl, rfl, rfl, rfl, i1⟩ := row_of_trod g2
      obtain ⟨x, e1, _⟩ := DataW.trod_bool Try.underlying4 g1
      obtain ⟨y, e2, _⟩ := DataW.trod_bool Try.underlying4 g3
      obtain rfl : c4 = _ := List.singleton_inj.1 e1
      obtain rfl : c9 = _ := List.singleton_inj.1 e2
      exact ⟨a, b, c, d, x, a', b', c', d', y, rfl, i0, i1⟩
end
end Go.Proofs.Ytapjdcofnigjhaa
