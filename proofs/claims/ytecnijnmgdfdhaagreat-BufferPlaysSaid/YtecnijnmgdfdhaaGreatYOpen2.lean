/- Joined: BfOpen, BfOpen2. -/
import Derived.Test.YtecnijnmgdfdhaaGreatYOpen
import Derived.Test.YtecnijnmgdfdhaaGreatYBfG
namespace Go.Proofs.YtecnijnmgdfdhaaGreat
namespace Tb
open Go.RowKit Go.WideShapes Go.ChangeShapes Go.Deep
section
variable {H : Type} {enc : TypeId × Value → H} {w : World} {base : Nat} {spare : Nat → Bool} {held : Bool}
theorem cellsAsk : Tryz.prog.cellsOf 52 = 4 := by kernel_rfl
abbrev AskT := Int × Int × Int × Int
def askV (a : AskT) : List Value := [.int .i64 a.1, .int .i64 a.2.1, .int .i64 a.2.2.1, .int .i64 a.2.2.2]
def OkAsk (a : AskT) : Prop := (Ky.In a.1 ∧ Ky.In a.2.2.2) ∧ Ky.In a.2.1 ∧ Ky.In a.2.2.1
set_option maxRecDepth 100000 in
theorem ask_of_trod {fuel : Nat} {cs : List Value} {x : DataW H × List MemPlace} (hl : cs.length = 4) (h : DataW.trod enc Tryz.prog w base spare held fuel 52 cs = some x) : ∃ e : AskT, cs = askV e ∧ OkAsk e := by
 match cs, hl with
 | [c0, c1, c2, c3], _ =>
  obtain ⟨xs, n, _, hx, _, hlen, hg⟩ := DataW.trod_struct Tryz.underlying52 h
  match xs, hlen with
  | [y0, y1, y2, y3], _ =>
   have g0 := hg 0 _ rfl
   have g1 := hg 1 _ rfl
   have g2 := hg 2 _ rfl
   have g3 := hg 3 _ rfl
   simp [cellsInt] at g0 g1 g2 g3
   obtain ⟨z0, e0, _, w0⟩ := DataW.trod_int Tryz.underlying3 g0
   obtain ⟨z1, e1, _, w1⟩ := DataW.trod_int Tryz.underlying3 g1
   obtain ⟨z2, e2, _, w2⟩ := DataW.trod_int Tryz.underlying3 g2
   obtain ⟨z3, e3, _, w3⟩ := DataW.trod_int Tryz.underlying3 g3
   obtain rfl : c0 = _ := List.singleton_inj.1 e0
   obtain rfl : c1 = _ := List.singleton_inj.1 e1
   obtain rfl : c2 = _ := List.singleton_inj.1 e2
   obtain rfl : c3 = _ := List.singleton_inj.1 e3
   exact ⟨(z0, z1, z2, z3), rfl, ⟨rng_of_wf w0, rng_of_wf w3⟩, rng_of_wf w1, rng_of_wf w2⟩
def asksV (L : List AskT) : List Value := L.flatMap askV
theorem asksV_cons (x : AskT) (L : List AskT) : asksV (x :: L) = .int .i64 x.1 :: .int .i64 x.2.1 :: .int .i64 x.2.2.1 :: .int .i64 x.2.2.2 :: asksV L := rfl
theorem asksV_length (L : List AskT) : (asksV L).length = L.length * 4 := by
 induction L with
 | nil => rfl
 | cons x L ih => rw [asksV_cons]; simp only [List.length_cons]; rw [ih]; omega
theorem asksV_one (L : List AskT) : ∀ u ∈ asksV L, u.oneCell' = true := by
 intro u hu
 obtain ⟨x, _, h⟩ := List.mem_flatMap.1 hu
 simp only [askV, List.mem_cons, List.not_mem_nil, or_false] at h
 rcases h with rfl | rfl | rfl | rfl <;> rfl
theorem asksV_drop : ∀ (L : List AskT) (n : Nat), (asksV L).drop (n * 4) = asksV (L.drop n)
 | [], n => by simp [asksV]
 | p :: L, 0 => by simp
 | p :: L, n + 1 => by
  rw [List.drop_succ_cons, asksV_cons, ← asksV_drop L n, show (n + 1) * 4 = n * 4 + 1 + 1 + 1 + 1 by omega]
  simp only [List.drop_succ_cons]
theorem asksV_get {L : List AskT} {i : Nat} {x : AskT} (h : L[i]? = some x) (k : Nat) (hk : k < 4) : (asksV L)[i * 4 + k]? = (askV x)[k]? := by
 have h1 := asksV_drop L i
 obtain ⟨hi, rfl⟩ := List.getElem?_eq_some_iff.1 h
 rw [List.drop_eq_getElem_cons hi, asksV_cons] at h1
 rw [← List.getElem?_drop, h1]
 have : k = 0 ∨ k = 1 ∨ k = 2 ∨ k = 3 := by omega
 rcases this with rfl | rfl | rfl | rfl <;> rfl
theorem ask_at {w : World} {a : Option Addr} {n c : Nat} {L : List AskT} (h : Rd w 4 a n c (asksV L)) {j : Nat} {x : AskT} (hj : L[j]? = some x) :
  ∃ b o, a = some ⟨b, o, none⟩ ∧ w.cell? ⟨b, o + j * 4, none⟩ = some (.int .i64 x.1) ∧ w.cell? ⟨b, o + j * 4 + 1, none⟩ = some (.int .i64 x.2.1) ∧ w.cell? ⟨b, o + j * 4 + 2, none⟩ = some (.int .i64 x.2.2.1) ∧ w.cell? ⟨b, o + j * 4 + 3, none⟩ = some (.int .i64 x.2.2.2) := by
 have h0 := asksV_get hj 0 (by omega)
 have h1 := asksV_get hj 1 (by omega)
 have h2 := asksV_get hj 2 (by omega)
 have h3 := asksV_get hj 3 (by omega)
 obtain ⟨b, o, e, hc⟩ := h.addr (by intro hn; rw [hn] at h0; simp [askV] at h0)
 have k1 := hc _ _ h1
 have k2 := hc _ _ h2
 have k3 := hc _ _ h3
 rw [← Nat.add_assoc] at k1 k2 k3
 exact ⟨b, o, e, hc _ _ h0, k1, k2, k3⟩
set_option maxRecDepth 100000 in
theorem open_asksT {a : Option Addr} {len cap : Nat} {d : DataW H} {p : List MemPlace} (h : DataW.Trod enc Tryz.prog w base spare held 25 (.slice a len cap) d p) :
  ∃ L : List AskT, len = L.length ∧ Rd w 4 a L.length cap (asksV L) ∧ ∀ x ∈ L, OkAsk x := by
 obtain ⟨fuel, hf⟩ := h
 rcases open_slice Tryz.underlying25 hf with ⟨h0, _⟩ | ⟨x, l2, c2, m, n, D, Pl, hcs, hb, hl, hm, hmm, hx, hi⟩
 ·simp [Value.cells] at h0
  obtain ⟨rfl, rfl, rfl⟩ := h0
  exact ⟨[], rfl, Rd.nilSlice w 4, fun _ h => by cases h⟩
 ·simp [Value.cells] at hcs
  obtain ⟨rfl, rfl, rfl⟩ := hcs
  have one : ∀ i, ∃ e : AskT, i < len → (∀ j, j < 4 → w.cell? (x.add (i * 4 + j)) = (askV e)[j]?) ∧ OkAsk e := by
   intro i
   by_cases hlt : i < len
   ·have him : i < m := by
     rw [hmm]
     split <;> omega
    obtain ⟨cs', hc, ht'⟩ := hi i him
    rw [cellsAsk] at hc
    obtain ⟨_, hcl, hat⟩ := World.cells?_some hc
    obtain ⟨e, he, hok⟩ := ask_of_trod (cs := cs') hcl ht'
    refine ⟨e, fun _ => ⟨fun j hj => ?_, hok⟩⟩
    rw [← he, ← Go.Deep.add_add]
    exact hat j hj
   ·exact ⟨(0, 0, 0, 0), fun h => absurd h hlt⟩
  let f := fun i => (one i).choose
  have hf : ∀ i, i < len → (∀ j, j < 4 → w.cell? (x.add (i * 4 + j)) = (askV (f i))[j]?) ∧ OkAsk (f i) := fun i => (one i).choose_spec
  have hlen : ((List.range len).map f).length = len := by simp
  refine ⟨(List.range len).map f, hlen.symm, ?_, fun x hx => by
   obtain ⟨i, hi, rfl⟩ := List.mem_map.1 hx
   exact (hf i (List.mem_range.1 hi)).2⟩
  rw [hlen]
  refine ⟨by rw [asksV_length, hlen], hl, hm, (fun h => by cases h), fun y hy j u hu => ?_, asksV_one _⟩
  cases hy
  have hj : j < len * 4 := by
   have := (List.getElem?_eq_some_iff.1 hu).1
   rwa [asksV_length, hlen] at this
  have hg : ((List.range len).map f)[j / 4]? = some (f (j / 4)) := by
   rw [List.getElem?_map, List.getElem?_range (by omega)]; rfl
  have h1 := asksV_get hg (j % 4) (by omega)
  have h2 := (hf (j / 4) (by omega)).1 (j % 4) (by omega)
  rw [show j / 4 * 4 + j % 4 = j by omega] at h1 h2
  rw [h2, ← h1]
  exact hu
end
end Tb
end Go.Proofs.YtecnijnmgdfdhaaGreat

namespace Go.Proofs.YtecnijnmgdfdhaaGreat
namespace Bf
open Go.RowKit Go.WideShapes Go.ChangeShapes Go.Deep Tb
section
variable {H : Type} {enc : TypeId × Value → H} {w : World} {base : Nat} {spare : Nat → Bool} {held : Bool}
theorem cellsOps8 : Tryz.prog.cellsOf 24 = 2 := by kernel_rfl
theorem cellsSl8 : Tryz.prog.cellsOf 22 = 1 := by kernel_rfl
theorem two8 {cs : List Value} (h : cs.length = 2) : ∃ a b, cs = [a, b] := by
 match cs, h with
 | [a, b], _ => exact ⟨a, b, rfl⟩
set_option maxRecDepth 100000 in
theorem slice_of_trod {fuel : Nat} {c0 : Value} {x : DataW H × List MemPlace} (h : DataW.trod enc Tryz.prog w base spare held fuel 22 [c0] = some x) :
  ∃ (a : Option Addr) (c : Nat) (l : List OpT), c0 = .slice a l.length c ∧ GoodOps w a c l := by
 have key : ∀ (a : Option Addr) (n c : Nat), c0 = .slice a n c → ∃ (a : Option Addr) (c : Nat) (l : List OpT), c0 = .slice a l.length c ∧ GoodOps w a c l := fun a n c e => by
  subst e
  obtain ⟨L, rfl, h1, h2⟩ := open_opsT (a := a) (len := n) (cap := c) (d := x.1) (p := x.2) ⟨fuel, by simpa [Value.cells] using h⟩
  exact ⟨a, c, L, rfl, h1, h2⟩
 rcases open_slice Tryz.underlying22 h with ⟨h0, _⟩ | ⟨y, l2, c2, m, n, D, Pl, hcs, _⟩
 ·exact key _ _ _ (List.singleton_inj.1 h0)
 ·exact key _ _ _ (List.singleton_inj.1 hcs)
set_option maxRecDepth 100000 in
theorem open_ops8 {r : Reach} {b0 : Nat} {v : Value} {d : DataW H} {p : List MemPlace} (hv : Value.okWide Tryz.prog w r b0 24 v) (h : DataW.Trod enc Tryz.prog w base spare held 24 v d p) :
  ∃ (a : Option Addr) (c : Nat) (l : List OpT) (q : Option Addr) (e : Nat) (m : List OpT), v = .agg #[.slice a l.length c, .slice q m.length e] ∧ GoodOps w a c l ∧ GoodOps w q e m := by
 obtain ⟨cs, rfl, hsz⟩ := okWide_struct Tryz.underlying24 hv
 obtain ⟨fuel, hf⟩ := h
 obtain ⟨u0, u1, hu⟩ := two8 (cs := cs.toList) (by simp; exact hsz.trans cellsOps8)
 have hcs : (Value.agg cs).cells.toList = [u0, u1] := by simp [Value.cells]; exact hu
 rw [hcs] at hf
 obtain ⟨xs, n, _, hx, _, hlen, hg⟩ := DataW.trod_struct Tryz.underlying24 hf
 match xs, hlen with
 | [y0, y1], _ =>
  have g0 := hg 0 _ rfl
  have g1 := hg 1 _ rfl
  simp [cellsSl8] at g0 g1
  obtain ⟨a, c, l, rfl, k1⟩ := slice_of_trod g0
  obtain ⟨q, e, m, rfl, k2⟩ := slice_of_trod g1
  refine ⟨a, c, l, q, e, m, ?_, k1, k2⟩
  rw [show cs = cs.toList.toArray by simp, hu]
end
end Bf
end Go.Proofs.YtecnijnmgdfdhaaGreat
