/- Arguments that are arrays, opened. Over any program. -/
import Derived.Test.YtapjdcofnigjhaaKit
import Derived.Lib.SmallJoins
namespace Go.Proofs.Ytapjdcofnigjhaa
open Go.RowKit Go.WideShapes Go.ChangeShapes

section
variable {H : Type} {enc : TypeId × Value → H} {P : Program} {w : World} {base : Nat} {spare : Nat → Bool} {held : Bool}

theorem okWide_array {r : Reach} {b0 : Nat} {t e : TypeId} {n : Nat} {v : Value} (ht : P.underlying t = some (.array n e)) (h : Value.okWide P w r b0 t v) : ∃ cs, v = .agg cs ∧ cs.size = P.cellsOf t := by
  simp only [Value.okWide, ht] at h
  obtain ⟨cs, h1, h2, _⟩ := h
  exact ⟨cs, h1, h2⟩

/-- An array of one-celled elements. -/
theorem open_array {r : Reach} {b0 : Nat} {t e : TypeId} {n : Nat} {v : Value} {d : DataW H} {p : List MemPlace} (ht : P.underlying t = some (.array n e)) (hce : P.cellsOf e = 1) (hC : P.cellsOf t = n)
    (hv : Value.okWide P w r b0 t v) (h : DataW.Trod enc P w base spare held t v d p) :
    ∃ (cs : List Value) (m : Nat), v = .agg cs.toArray ∧ cs.length = n ∧ ∀ (i : Nat) (u : Value), cs[i]? = some u → ∃ y, DataW.trod enc P w base spare held m e [u] = some y := by
  obtain ⟨cs, rfl, hsz⟩ := okWide_array ht hv
  obtain ⟨fuel, hf⟩ := h
  obtain ⟨xs, m, _, _, hl, hx, hel⟩ := DataW.trod_array ht hf
  refine ⟨cs.toList, m, by simp, by simpa using hsz.trans hC, fun i u hu => ?_⟩
  have hi : i < n := by
    have := (List.getElem?_eq_some_iff.1 hu).1
    simp at this; omega
  have h1 := hel i hi
  rw [hce, Nat.mul_one] at h1
  have hc : (Value.agg cs).cells.toList = cs.toList := by simp [Value.cells]
  rw [hc] at h1
  have h2 : (cs.toList.drop i).take 1 = [u] := by
    rw [List.take_one, List.head?_drop, hu]; rfl
  rw [h2] at h1
  obtain ⟨y, hy⟩ : ∃ y, xs[i]? = some y := ⟨_, List.getElem?_eq_getElem (by omega)⟩
  exact ⟨y, by rw [h1, hy]⟩

theorem four_of {cs : List Value} (h : cs.length = 4) : ∃ a b c d, cs = [a, b, c, d] := by
  match cs, h with
  | [a, b, c, d], _ => exact ⟨a, b, c, d, rfl⟩

/-- Four numbers of one kind. -/
theorem open_four {r : Reach} {b0 : Nat} {t e : TypeId} {k : IntKind} {v : Value} {d : DataW H} {p : List MemPlace} (ht : P.underlying t = some (.array 4 e)) (he : P.underlying e = some (.int k)) (hce : P.cellsOf e = 1) (hC : P.cellsOf t = 4)
    (hv : Value.okWide P w r b0 t v) (h : DataW.Trod enc P w base spare held t v d p) :
    ∃ a b c d : Int, v = .agg #[.int k a, .int k b, .int k c, .int k d] ∧ (Lit.int k a).wf = true ∧ (Lit.int k b).wf = true ∧ (Lit.int k c).wf = true ∧ (Lit.int k d).wf = true := by
  obtain ⟨cs, m, rfl, hl, hel⟩ := open_array ht hce hC hv h
  obtain ⟨u0, u1, u2, u3, rfl⟩ := four_of hl
  have one : ∀ (i : Nat) (u : Value), [u0, u1, u2, u3][i]? = some u → ∃ n, u = .int k n ∧ (Lit.int k n).wf = true := by
    intro i u hu
    obtain ⟨y, hy⟩ := hel i u hu
    obtain ⟨n, e1, _, e3⟩ := DataW.trod_int he hy
    simp at e1
    exact ⟨n, e1, e3⟩
  obtain ⟨n0, rfl, w0⟩ := one 0 u0 rfl
  obtain ⟨n1, rfl, w1⟩ := one 1 u1 rfl
  obtain ⟨n2, rfl, w2⟩ := one 2 u2 rfl
  obtain ⟨n3, rfl, w3⟩ := one 3 u3 rfl
  exact ⟨n0, n1, n2, n3, rfl, w0, w1, w2, w3⟩
end

theorem byte_of_wf {n : Int} (h : (Lit.int .u8 n).wf = true) : ∃ b : UInt8, n = (b.toNat : Int) := by
  have hb : 0 ≤ n ∧ n ≤ 255 := by
    simp [Lit.wf, IntKind.min, IntKind.max, IntKind.signed, IntKind.bits] at h
    omega
  refine ⟨UInt8.ofNat n.toNat, ?_⟩
  rw [UInt8.toNat_ofNat', Nat.mod_eq_of_lt (by omega)]
  omega
end Go.Proofs.Ytapjdcofnigjhaa
