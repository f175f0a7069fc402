/- Joined: BfOpen2. -/
import Derived.Test.YtecnijnmgdfdhaaGreatYOpen
import Derived.Test.YtecnijnmgdfdhaaGreatYBfG
namespace Go.Proofs.YtecnijnmgdfdhaaGreat
namespace Bf
open Go.RowKit Go.WideShapes Go.ChangeShapes Go.Deep Tb
section
variable {H : Type} {enc : TypeId × Value → H} {w : World} {base : Nat} {spare : Nat → Bool} {held : Bool}
theorem cellsOps8 : Tryz.prog.cellsOf 24 = 2 := by kernel_rfl
theorem cellsSl8 : Tryz.prog.cellsOf 22 = 1 := by kernel_rfl
theorem two8 {cs : List Value} (h : cs.length = 2) : ∃ a b, cs = [a, b] := by
 match cs, h with
 | [a, b], _ => exact ⟨a, b, rfl⟩
set_option maxRecDepth 100000 in
theorem slice_of_trod {fuel : Nat} {c0 : Value} {x : DataW H × List MemPlace} (h : DataW.trod enc Tryz.prog w base spare held fuel 22 [c0] = some x) :
  ∃ (a : Option Addr) (c : Nat) (l : List OpT), c0 = .slice a l.length c ∧ GoodOps w a c l := by
 have key : ∀ (a : Option Addr) (n c : Nat), c0 = .slice a n c → ∃ (a : Option Addr) (c : Nat) (l : List OpT), c0 = .slice a l.length c ∧ GoodOps w a c l := fun a n c e => by
  subst e
  obtain ⟨L, rfl, h1, h2⟩ := open_opsT (a := a) (len := n) (cap := c) (d := x.1) (p := x.2) ⟨fuel, by simpa [Value.cells] using h⟩
  exact ⟨a, c, L, rfl, h1, h2⟩
 rcases open_slice Tryz.underlying22 h with ⟨h0, _⟩ | ⟨y, l2, c2, m, n, D, Pl, hcs, _⟩
 ·exact key _ _ _ (List.singleton_inj.1 h0)
 ·exact key _ _ _ (List.singleton_inj.1 hcs)
set_option maxRecDepth 100000 in
theorem open_ops8 {r : Reach} {b0 : Nat} {v : Value} {d : DataW H} {p : List MemPlace} (hv : Value.okWide Tryz.prog w r b0 24 v) (h : DataW.Trod enc Tryz.prog w base spare held 24 v d p) :
  ∃ (a : Option Addr) (c : Nat) (l : List OpT) (q : Option Addr) (e : Nat) (m : List OpT), v = .agg #[.slice a l.length c, .slice q m.length e] ∧ GoodOps w a c l ∧ GoodOps w q e m := by
 obtain ⟨cs, rfl, hsz⟩ := okWide_struct Tryz.underlying24 hv
 obtain ⟨fuel, hf⟩ := h
 obtain ⟨u0, u1, hu⟩ := two8 (cs := cs.toList) (by simp; exact hsz.trans cellsOps8)
 have hcs : (Value.agg cs).cells.toList = [u0, u1] := by simp [Value.cells]; exact hu
 rw [hcs] at hf
 obtain ⟨xs, n, _, hx, _, hlen, hg⟩ := DataW.trod_struct Tryz.underlying24 hf
 match xs, hlen with
 | [y0, y1], _ =>
  have g0 := hg 0 _ rfl
  have g1 := hg 1 _ rfl
  simp [cellsSl8] at g0 g1
  obtain ⟨a, c, l, rfl, k1⟩ := slice_of_trod g0
  obtain ⟨q, e, m, rfl, k2⟩ := slice_of_trod g1
  refine ⟨a, c, l, q, e, m, ?_, k1, k2⟩
  rw [show cs = cs.toList.toArray by simp, hu]
end
end Bf
end Go.Proofs.YtecnijnmgdfdhaaGreat
