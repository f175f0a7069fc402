/- Joined: Open, OpenS, TbOpen. -/
import Derived.Test.YtecnijnmgdfdhaaGreatYKit
import Derived.Lib.SmallJoins
import Derived.Deep.Slices
import Derived.Deep.Fields
import Derived.ChangeSame
import Derived.Test.YtecnijnmgdfdhaaGreatYLawA
namespace Go.Proofs.YtecnijnmgdfdhaaGreat
open Go.RowKit Go.WideShapes Go.ChangeShapes

section
variable {H : Type} {enc : TypeId × Value → H} {P : Program} {w : World} {base : Nat} {spare : Nat → Bool} {held : Bool}

end

end Go.Proofs.YtecnijnmgdfdhaaGreat

namespace Go.Proofs.YtecnijnmgdfdhaaGreat
open Go.ChangeShapes Go.WideShapes Go.Deep
section
variable {H : Type} {enc : TypeId × Value → H} {P : Program} {w : World} {base : Nat} {spare : Nat → Bool} {held : Bool}
end
end Go.Proofs.YtecnijnmgdfdhaaGreat

namespace Go.Proofs.YtecnijnmgdfdhaaGreat
namespace Tb
open Go.RowKit Go.WideShapes Go.ChangeShapes Go.Deep
section
variable {H : Type} {enc : TypeId × Value → H} {w : World} {base : Nat} {spare : Nat → Bool} {held : Bool}
theorem text_list2 (s : ByteArray) : s = ⟨s.data.toList.toArray⟩ := by rw [Array.toArray_toList]
theorem rng_of_wf {n : Int} (h : (Lit.int .i64 n).wf = true) : Ky.In n := by
 simp [Lit.wf, IntKind.min, IntKind.max, IntKind.signed, IntKind.bits] at h
 unfold Ky.In
 omega
theorem cellsInt : Tryz.prog.cellsOf 3 = 1 := by kernel_rfl
theorem cellsStr : Tryz.prog.cellsOf 9 = 1 := by kernel_rfl
theorem cellsRow : Tryz.prog.cellsOf 41 = 4 := by kernel_rfl
theorem cellsOp : Tryz.prog.cellsOf 43 = 6 := by kernel_rfl
theorem row_of_trod {fuel : Nat} {c0 c1 c2 c3 : Value} {x : DataW H × List MemPlace} (h : DataW.trod enc Tryz.prog w base spare held fuel 41 [c0, c1, c2, c3] = some x) :
  ∃ r : R4, [c0, c1, c2, c3] = r4V r ∧ In4 r := by
 obtain ⟨xs, m, _, _, hl, hx, hel⟩ := DataW.trod_array Tryz.underlying41 h
 have one : ∀ (i : Nat) (u : Value), [c0, c1, c2, c3][i]? = some u → ∃ n, u = .int .i64 n ∧ (Lit.int .i64 n).wf = true := by
  intro i u hu
  have hi : i < 4 := (List.getElem?_eq_some_iff.1 hu).1
  have h1 := hel i hi
  rw [cellsInt, Nat.mul_one] at h1
  have h2 : ([c0, c1, c2, c3].drop i).take 1 = [u] := by
   rw [List.take_one, List.head?_drop, hu]; rfl
  rw [h2] at h1
  obtain ⟨y, hy⟩ : ∃ y, xs[i]? = some y := ⟨_, List.getElem?_eq_getElem (by omega)⟩
  rw [hy] at h1
  obtain ⟨n, e1, _, e3⟩ := DataW.trod_int Tryz.underlying3 h1
  simp at e1
  exact ⟨n, e1, e3⟩
 obtain ⟨n0, rfl, w0⟩ := one 0 c0 rfl
 obtain ⟨n1, rfl, w1⟩ := one 1 c1 rfl
 obtain ⟨n2, rfl, w2⟩ := one 2 c2 rfl
 obtain ⟨n3, rfl, w3⟩ := one 3 c3 rfl
 refine ⟨(n0, n1, n2, n3), rfl, fun i => ?_⟩
 have h0 := rng_of_wf w0
 have h1 := rng_of_wf w1
 have h2 := rng_of_wf w2
 have h3 := rng_of_wf w3
 unfold col Rw.rowF
 split <;> assumption
set_option maxRecDepth 100000 in
theorem op_of_trod {fuel : Nat} {cs : List Value} {x : DataW H × List MemPlace} (hl : cs.length = 6) (h : DataW.trod enc Tryz.prog w base spare held fuel 43 cs = some x) : ∃ e : OpT, cs = opV e ∧ OkOp e := by
 match cs, hl with
 | [c0, c1, c2, c3, c4, c5], _ =>
  obtain ⟨xs, n, _, hx, _, hlen, hg⟩ := DataW.trod_struct Tryz.underlying43 h
  match xs, hlen with
  | [y0, y1, y2], _ =>
   have g0 := hg 0 _ rfl
   have g1 := hg 1 _ rfl
   have g2 := hg 2 _ rfl
   simp [cellsInt] at g0
   simp [cellsStr] at g1
   simp [cellsRow] at g2
   obtain ⟨r, e2, hr⟩ := row_of_trod g2
   obtain ⟨z0, e0, _, _⟩ := DataW.trod_int Tryz.underlying3 g0
   obtain ⟨s1, e1, _, hs1⟩ := DataW.trod_string Tryz.underlying9 g1
   obtain rfl : c0 = _ := List.singleton_inj.1 e0
   obtain rfl : c1 = _ := List.singleton_inj.1 e1
   refine ⟨(z0, s1.data.toList, r), ?_, ?_, hr⟩
   ·unfold opV
    simp only
    rw [← text_list2 s1]
    show [_, _] ++ [c2, c3, c4, c5] = _
    rw [e2]
    rfl
   ·have : s1.data.toList.length = s1.size := by simp
    show s1.data.toList.length ≤ _
    rw [this]
    exact hs1
set_option maxRecDepth 100000 in
theorem open_opsT {a : Option Addr} {len cap : Nat} {d : DataW H} {p : List MemPlace} (h : DataW.Trod enc Tryz.prog w base spare held 22 (.slice a len cap) d p) :
  ∃ L : List OpT, len = L.length ∧ Rd w 6 a L.length cap (opsV L) ∧ ∀ x ∈ L, OkOp x := by
 obtain ⟨fuel, hf⟩ := h
 rcases open_slice Tryz.underlying22 hf with ⟨h0, _⟩ | ⟨x, l2, c2, m, n, D, Pl, hcs, hb, hl, hm, hmm, hx, hi⟩
 ·simp [Value.cells] at h0
  obtain ⟨rfl, rfl, rfl⟩ := h0
  exact ⟨[], rfl, Rd.nilSlice w 6, fun _ h => by cases h⟩
 ·simp [Value.cells] at hcs
  obtain ⟨rfl, rfl, rfl⟩ := hcs
  have one : ∀ i, ∃ e : OpT, i < len → (∀ j, j < 6 → w.cell? (x.add (i * 6 + j)) = (opV e)[j]?) ∧ OkOp e := by
   intro i
   by_cases hlt : i < len
   ·have him : i < m := by
     rw [hmm]
     split <;> omega
    obtain ⟨cs', hc, ht'⟩ := hi i him
    rw [cellsOp] at hc
    obtain ⟨_, hcl, hat⟩ := World.cells?_some hc
    obtain ⟨e, he, hok⟩ := op_of_trod (cs := cs') hcl ht'
    refine ⟨e, fun _ => ⟨fun j hj => ?_, hok⟩⟩
    rw [← he, ← Go.Deep.add_add]
    exact hat j hj
   ·exact ⟨(0, [], 0, 0, 0, 0), fun h => absurd h hlt⟩
  let f := fun i => (one i).choose
  have hf : ∀ i, i < len → (∀ j, j < 6 → w.cell? (x.add (i * 6 + j)) = (opV (f i))[j]?) ∧ OkOp (f i) := fun i => (one i).choose_spec
  have hlen : ((List.range len).map f).length = len := by simp
  refine ⟨(List.range len).map f, hlen.symm, ?_, fun x hx => by
   obtain ⟨i, hi, rfl⟩ := List.mem_map.1 hx
   exact (hf i (List.mem_range.1 hi)).2⟩
  rw [hlen]
  refine ⟨by rw [opsV_length, hlen], hl, hm, (fun h => by cases h), fun y hy j u hu => ?_, opsV_one _⟩
  cases hy
  have hj : j < len * 6 := by
   have := (List.getElem?_eq_some_iff.1 hu).1
   rwa [opsV_length, hlen] at this
  have hg : ((List.range len).map f)[j / 6]? = some (f (j / 6)) := by
   rw [List.getElem?_map, List.getElem?_range (by omega)]; rfl
  have h1 := opsV_get hg (j % 6) (by omega)
  have h2 := (hf (j / 6) (by omega)).1 (j % 6) (by omega)
  rw [show j / 6 * 6 + j % 6 = j by omega] at h1 h2
  rw [h2, ← h1]
  exact hu
end
end Tb
end Go.Proofs.YtecnijnmgdfdhaaGreat
