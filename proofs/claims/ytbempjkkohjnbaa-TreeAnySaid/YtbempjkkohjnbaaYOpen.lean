/- Joined: OpenS, OpenP, Open, OpenQ. -/
import Derived.Test.YtbempjkkohjnbaaYKit
import Derived.Deep.Slices
import Derived.Deep.Fields
import Derived.ChangeSame
import Derived.Test.YtbempjkkohjnbaaYLawA
import Derived.Lib.SmallJoins
/- A slice of structs of one-cell fields that comes in, opened to its cells (after the kit's extra-structs page). Over any program. -/
namespace Go.Proofs.Ytbempjkkohjnbaa
open Go.ChangeShapes Go.WideShapes Go.Deep
section
variable {H : Type} {enc : TypeId × Value → H} {P : Program} {w : World} {base : Nat} {spare : Nat → Bool} {held : Bool}
theorem open_rows {t e : TypeId} {fs : Array Field} {fuel : Nat} {a0 : Option Addr} {len cap : Nat} {x : DataW H × List MemPlace} (ht : P.underlying t = some (.slice e)) (he : P.underlying e = some (.struct fs))
    (hone : oneCellFields P fs = true) (hC : P.cellsOf e = fs.size) (h : DataW.trod enc P w base spare held fuel t [.slice a0 len cap] = some x) :
    (a0 = none ∧ len = 0 ∧ cap = 0) ∨
    ∃ a, a0 = some a ∧ len ≤ cap ∧ cap ≤ maxLen ∧
      ∀ i, i < len → ∀ (j : Nat) (f : Field), fs[j]? = some f → ∃ (v : Value) (y : DataW H × List MemPlace) (n : Nat), w.cell? (a.add (i * fs.size + j)) = some v ∧ DataW.trod enc P w base spare held n f.type [v] = some y := by
  rcases open_slice ht h with ⟨h0, _⟩ | ⟨a, l2, c2, m, n, D, Pl, hcs, hb, hl, hm, hmm, hx, hi⟩
  · simp only [List.cons.injEq, Value.slice.injEq, and_true] at h0
    exact .inl h0
  · simp only [List.cons.injEq, Value.slice.injEq, and_true] at hcs
    obtain ⟨rfl, rfl, rfl⟩ := hcs
    refine .inr ⟨a, rfl, hl, hm, fun i hlt j f hj => ?_⟩
    have him : i < m := by
      rw [hmm]
      split <;> omega
    obtain ⟨cs', hc, ht'⟩ := hi i him
    rw [hC] at hc
    obtain ⟨ys, n', hn', hy, hlen, hyl, hf⟩ := DataW.trod_struct he ht'
    obtain ⟨_, hcl, hat⟩ := World.cells?_some hc
    obtain ⟨ho, hk⟩ := hone_of hone j f hj
    have hjl : j < fs.size := (Array.getElem?_eq_some_iff.1 hj).1
    have hcell := hat j hjl
    have hv : cs'[j]? = some (cs'[j]'(by omega)) := List.getElem?_eq_getElem (by omega)
    have h1 := hf j f hj
    rw [ho, hk] at h1
    have hone' : (cs'.drop j).take 1 = [cs'[j]'(by omega)] := by
      rw [List.drop_eq_getElem_cons (by omega)]
      rfl
    rw [hone'] at h1
    have hys : ys[j]? = some (ys[j]'(by omega)) := List.getElem?_eq_getElem (by omega)
    refine ⟨_, _, n', ?_, h1.trans hys⟩
    rw [← Go.Deep.add_add, hcell, hv]
end
end Go.Proofs.Ytbempjkkohjnbaa

/- The calls of package tree's laws, opened. -/
namespace Go.Proofs.Ytbempjkkohjnbaa
open Go.RowKit Go.WideShapes Go.ChangeShapes
section
variable {H : Type} {enc : TypeId × Value → H} {w : World} {base : Nat} {spare : Nat → Bool} {held : Bool}
theorem text_list2 (s : ByteArray) : s = ⟨s.data.toList.toArray⟩ := by rw [Array.toArray_toList]
theorem topCells : Try.prog.cellsOf 58 = 3 := by kernel_rfl
theorem open_tops {a : Option Addr} {len cap : Nat} {d : DataW H} {p : List MemPlace} (h : DataW.Trod enc Try.prog w base spare held 54 (.slice a len cap) d p) :
    ∃ L : List TOp, len = L.length ∧ Rd w 3 a L.length cap (topsV L) ∧ ∀ x ∈ L, OkTop x := by
  obtain ⟨fuel, hf⟩ := h
  rcases open_rows Try.underlying54 Try.underlying58 (by kernel_rfl) topCells hf with ⟨rfl, rfl, rfl⟩ | ⟨x, rfl, hl, hm, hc⟩
  · exact ⟨[], rfl, Rd.nilSlice w 3, fun _ h => by cases h⟩
  · have one : ∀ i, ∃ e : TOp, i < len → w.cell? (x.add (i * 3)) = some (.int .i64 e.1) ∧ w.cell? (x.add (i * 3 + 1)) = some (.string ⟨e.2.1.toArray⟩) ∧ w.cell? (x.add (i * 3 + 2)) = some (.string ⟨e.2.2.toArray⟩) ∧ OkTop e := by
      intro i
      by_cases hi : i < len
      · obtain ⟨v0, y0, n0, c0, t0⟩ := hc i hi 0 _ rfl
        obtain ⟨v1, y1, n1, c1, t1⟩ := hc i hi 1 _ rfl
        obtain ⟨v2, y2, n2, c2, t2⟩ := hc i hi 2 _ rfl
        obtain ⟨z0, e0, _, hw0⟩ := DataW.trod_int Try.underlying3 t0
        obtain ⟨s1, e1, _, hs1⟩ := DataW.trod_string Try.underlying9 t1
        obtain ⟨s2, e2, _, hs2⟩ := DataW.trod_string Try.underlying9 t2
        obtain rfl : v0 = _ := List.singleton_inj.1 e0
        obtain rfl : v1 = _ := List.singleton_inj.1 e1
        obtain rfl : v2 = _ := List.singleton_inj.1 e2
        refine ⟨(z0, s1.data.toList, s2.data.toList), fun _ => ⟨c0, ?_, ?_, ?_, ?_⟩⟩
        · rw [← text_list2 s1]
          exact c1
        · rw [← text_list2 s2]
          exact c2
        · have : s1.data.toList.length = s1.size := by simp
          rw [this]
          exact hs1
        · have : s2.data.toList.length = s2.size := by simp
          rw [this]
          exact hs2
      · exact ⟨(0, [], []), fun h => absurd h hi⟩
    let f := fun i => (one i).choose
    have hf : ∀ i, i < len → w.cell? (x.add (i * 3)) = some (.int .i64 (f i).1) ∧ w.cell? (x.add (i * 3 + 1)) = some (.string ⟨(f i).2.1.toArray⟩) ∧ w.cell? (x.add (i * 3 + 2)) = some (.string ⟨(f i).2.2.toArray⟩) ∧ OkTop (f i) := fun i => (one i).choose_spec
    have hlen : ((List.range len).map f).length = len := by simp
    refine ⟨(List.range len).map f, hlen.symm, ?_, fun x hx => by
      obtain ⟨i, hi, rfl⟩ := List.mem_map.1 hx
      exact (hf i (List.mem_range.1 hi)).2.2.2⟩
    rw [hlen]
    refine ⟨by rw [topsV_length, hlen], hl, hm, (fun h => by cases h), fun y hy j u hu => ?_, topsV_one _⟩
    cases hy
    have hj : j < len * 3 := by
      have := (List.getElem?_eq_some_iff.1 hu).1
      rwa [topsV_length, hlen] at this
    have hg : ((List.range len).map f)[j / 3]? = some (f (j / 3)) := by
      rw [List.getElem?_map, List.getElem?_range (by omega)]; rfl
    obtain ⟨g0, g1, g2⟩ := topsV_get hg
    have hfj := hf (j / 3) (by omega)
    have hm3 : j % 3 = 0 ∨ j % 3 = 1 ∨ j % 3 = 2 := by omega
    rcases hm3 with h3 | h3 | h3
    · have hje : j = j / 3 * 3 := by omega
      rw [hje] at hu ⊢
      rw [g0] at hu
      rw [← hu]
      exact hfj.1
    · have hje : j = j / 3 * 3 + 1 := by omega
      rw [hje] at hu ⊢
      rw [g1] at hu
      rw [← hu]
      exact hfj.2.1
    · have hje : j = j / 3 * 3 + 2 := by omega
      rw [hje] at hu ⊢
      rw [g2] at hu
      rw [← hu]
      exact hfj.2.2.1
end
end Go.Proofs.Ytbempjkkohjnbaa

/- Arguments that are arrays, opened. Over any program. -/
namespace Go.Proofs.Ytbempjkkohjnbaa
open Go.RowKit Go.WideShapes Go.ChangeShapes

section
variable {H : Type} {enc : TypeId × Value → H} {P : Program} {w : World} {base : Nat} {spare : Nat → Bool} {held : Bool}

theorem okWide_array {r : Reach} {b0 : Nat} {t e : TypeId} {n : Nat} {v : Value} (ht : P.underlying t = some (.array n e)) (h : Value.okWide P w r b0 t v) : ∃ cs, v = .agg cs ∧ cs.size = P.cellsOf t := by
  simp only [Value.okWide, ht] at h
  obtain ⟨cs, h1, h2, _⟩ := h
  exact ⟨cs, h1, h2⟩

/-- An array of one-celled elements. -/
theorem open_array {r : Reach} {b0 : Nat} {t e : TypeId} {n : Nat} {v : Value} {d : DataW H} {p : List MemPlace} (ht : P.underlying t = some (.array n e)) (hce : P.cellsOf e = 1) (hC : P.cellsOf t = n)
    (hv : Value.okWide P w r b0 t v) (h : DataW.Trod enc P w base spare held t v d p) :
    ∃ (cs : List Value) (m : Nat), v = .agg cs.toArray ∧ cs.length = n ∧ ∀ (i : Nat) (u : Value), cs[i]? = some u → ∃ y, DataW.trod enc P w base spare held m e [u] = some y := by
  obtain ⟨cs, rfl, hsz⟩ := okWide_array ht hv
  obtain ⟨fuel, hf⟩ := h
  obtain ⟨xs, m, _, _, hl, hx, hel⟩ := DataW.trod_array ht hf
  refine ⟨cs.toList, m, by simp, by simpa using hsz.trans hC, fun i u hu => ?_⟩
  have hi : i < n := by
    have := (List.getElem?_eq_some_iff.1 hu).1
    simp at this; omega
  have h1 := hel i hi
  rw [hce, Nat.mul_one] at h1
  have hc : (Value.agg cs).cells.toList = cs.toList := by simp [Value.cells]
  rw [hc] at h1
  have h2 : (cs.toList.drop i).take 1 = [u] := by
    rw [List.take_one, List.head?_drop, hu]; rfl
  rw [h2] at h1
  obtain ⟨y, hy⟩ : ∃ y, xs[i]? = some y := ⟨_, List.getElem?_eq_getElem (by omega)⟩
  exact ⟨y, by rw [h1, hy]⟩

theorem four_of {cs : List Value} (h : cs.length = 4) : ∃ a b c d, cs = [a, b, c, d] := by
  match cs, h with
  | [a, b, c, d], _ => exact ⟨a, b, c, d, rfl⟩

/-- Four numbers of one kind. -/
theorem open_four {r : Reach} {b0 : Nat} {t e : TypeId} {k : IntKind} {v : Value} {d : DataW H} {p : List MemPlace} (ht : P.underlying t = some (.array 4 e)) (he : P.underlying e = some (.int k)) (hce : P.cellsOf e = 1) (hC : P.cellsOf t = 4)
    (hv : Value.okWide P w r b0 t v) (h : DataW.Trod enc P w base spare held t v d p) :
    ∃ a b c d : Int, v = .agg #[.int k a, .int k b, .int k c, .int k d] ∧ (Lit.int k a).wf = true ∧ (Lit.int k b).wf = true ∧ (Lit.int k c).wf = true ∧ (Lit.int k d).wf = true := by
  obtain ⟨cs, m, rfl, hl, hel⟩ := open_array ht hce hC hv h
  obtain ⟨u0, u1, u2, u3, rfl⟩ := four_of hl
  have one : ∀ (i : Nat) (u : Value), [u0, u1, u2, u3][i]? = some u → ∃ n, u = .int k n ∧ (Lit.int k n).wf = true := by
    intro i u hu
    obtain ⟨y, hy⟩ := hel i u hu
    obtain ⟨n, e1, _, e3⟩ := DataW.trod_int he hy
    simp at e1
    exact ⟨n, e1, e3⟩
  obtain ⟨n0, rfl, w0⟩ := one 0 u0 rfl
  obtain ⟨n1, rfl, w1⟩ := one 1 u1 rfl
  obtain ⟨n2, rfl, w2⟩ := one 2 u2 rfl
  obtain ⟨n3, rfl, w3⟩ := one 3 u3 rfl
  exact ⟨n0, n1, n2, n3, rfl, w0, w1, w2, w3⟩
end

theorem byte_of_wf {n : Int} (h : (Lit.int .u8 n).wf = true) : ∃ b : UInt8, n = (b.toNat : Int) := by
  have hb : 0 ≤ n ∧ n ≤ 255 := by
    simp [Lit.wf, IntKind.min, IntKind.max, IntKind.signed, IntKind.bits] at h
    omega
  refine ⟨UInt8.ofNat n.toNat, ?_⟩
  rw [UInt8.toNat_ofNat', Nat.mod_eq_of_lt (by omega)]
  omega
end Go.Proofs.Ytbempjkkohjnbaa

/- Arrays of two, opened. -/
namespace Go.Proofs.Ytbempjkkohjnbaa
open Go.RowKit Go.WideShapes Go.ChangeShapes
section
variable {H : Type} {enc : TypeId × Value → H} {w : World} {base : Nat} {spare : Nat → Bool} {held : Bool}
theorem two_of {cs : List Value} (h : cs.length = 2) : ∃ a b, cs = [a, b] := by
  match cs, h with
  | [a, b], _ => exact ⟨a, b, rfl⟩
theorem cellsStr1 : Try.prog.cellsOf 9 = 1 := by kernel_rfl
theorem cellsInt1 : Try.prog.cellsOf 3 = 1 := by kernel_rfl
theorem cellsStr2 : Try.prog.cellsOf 67 = 2 := by kernel_rfl
theorem cellsInt2 : Try.prog.cellsOf 65 = 2 := by kernel_rfl
set_option maxRecDepth 100000 in
theorem open_twos {r : Reach} {b0 : Nat} {v : Value} {d : DataW H} {p : List MemPlace} (hv : Value.okWide Try.prog w r b0 67 v) (h : DataW.Trod enc Try.prog w base spare held 67 v d p) :
    ∃ s t : List UInt8, v = .agg #[.string ⟨s.toArray⟩, .string ⟨t.toArray⟩] ∧ s.length ≤ maxLen ∧ t.length ≤ maxLen := by
  obtain ⟨cs, m, rfl, hl, hel⟩ := open_array Try.underlying67 cellsStr1 cellsStr2 hv h
  obtain ⟨u0, u1, rfl⟩ := two_of hl
  have one : ∀ (i : Nat) (u : Value), [u0, u1][i]? = some u → ∃ s : List UInt8, u = .string ⟨s.toArray⟩ ∧ s.length ≤ maxLen := by
    intro i u hu
    obtain ⟨y, hy⟩ := hel i u hu
    obtain ⟨s, e1, _, hs⟩ := DataW.trod_string Try.underlying9 hy
    obtain rfl : u = _ := List.singleton_inj.1 e1
    refine ⟨s.data.toList, congrArg Value.string (text_list2 s), ?_⟩
    have : s.data.toList.length = s.size := Array.length_toList
    omega
  obtain ⟨s, rfl, h0⟩ := one 0 u0 rfl
  obtain ⟨t, rfl, h1⟩ := one 1 u1 rfl
  exact ⟨s, t, rfl, h0, h1⟩
set_option maxRecDepth 100000 in
theorem open_twoi {r : Reach} {b0 : Nat} {v : Value} {d : DataW H} {p : List MemPlace} (hv : Value.okWide Try.prog w r b0 65 v) (h : DataW.Trod enc Try.prog w base spare held 65 v d p) :
    ∃ m n : Int, v = .agg #[.int .i64 m, .int .i64 n] ∧ (Lit.int .i64 m).wf = true ∧ (Lit.int .i64 n).wf = true := by
  obtain ⟨cs, k, rfl, hl, hel⟩ := open_array Try.underlying65 cellsInt1 cellsInt2 hv h
  obtain ⟨u0, u1, rfl⟩ := two_of hl
  have one : ∀ (i : Nat) (u : Value), [u0, u1][i]? = some u → ∃ n, u = .int .i64 n ∧ (Lit.int .i64 n).wf = true := by
    intro i u hu
    obtain ⟨y, hy⟩ := hel i u hu
    obtain ⟨n, e1, _, e3⟩ := DataW.trod_int Try.underlying3 hy
    simp at e1
    exact ⟨n, e1, e3⟩
  obtain ⟨n0, rfl, w0⟩ := one 0 u0 rfl
  obtain ⟨n1, rfl, w1⟩ := one 1 u1 rfl
  exact ⟨n0, n1, rfl, w0, w1⟩
end
end Go.Proofs.Ytbempjkkohjnbaa
