/- Three writers side by side. -/
import Derived.Test.YtapjdcofnigjhaaField16
namespace Go.Proofs.Ytapjdcofnigjhaa
open Go.RowKit
theorem text_list (s : ByteArray) : s = ⟨s.data.toList.toArray⟩ := by rw [Array.toArray_toList]
namespace Fd
theorem grp_mono (m : Nat) : ∀ n k, n < m → k ≤ n → (grp k).length ≤ (grp n).length := by
  induction m with
  | zero => intro n k h; omega
  | succ m ih =>
    intro n k h hk
    by_cases hn : n < 128
    · rw [grp_small hn, grp_small (by omega)]
      simp
    · by_cases hk2 : k < 128
      · rw [grp_small hk2]
        exact grp_pos n
      · rw [grp_big (n := k) (by omega), grp_big (n := n) (by omega), List.length_cons, List.length_cons]
        have := ih (n / 128) (k / 128) (by omega) (by omega)
        omega
end Fd
/-- Three writers, made since w0, apart. -/
def W3 (w0 w : World) (g1 : Nat) (b1 : List UInt8) (g2 : Nat) (b2 : List UInt8) (g3 : Nat) (b3 : List UInt8) : Prop :=
  ∃ G1 G2 G3, (∃ a c, Wr w g1 G1 a c b1) ∧ (∃ a c, Wr w g2 G2 a c b2) ∧ (∃ a c, Wr w g3 G3 a c b3) ∧ Apart (wf g1 G1) (wf g2 G2) ∧ Apart (wf g1 G1) (wf g3 G3) ∧ Apart (wf g2 G2) (wf g3 G3) ∧
    (∀ b o, wf g1 G1 b o → w0.heap.size ≤ b) ∧ (∀ b o, wf g2 G2 b o → w0.heap.size ≤ b) ∧ (∀ b o, wf g3 G3 b o → w0.heap.size ≤ b) ∧ Below w0.heap.size w0 w
section
variable {w0 w w' : World} {g1 g2 g3 : Nat} {b1 b2 b3 b1' : List UInt8}
theorem W3.low (h : W3 w0 w g1 b1 g2 b2 g3 b3) : Below w0.heap.size w0 w := by
  obtain ⟨G1, G2, G3, h1, h2, h3, k1, k2, k3, l1, l2, l3, hb⟩ := h
  exact hb
theorem W3.swap (h : W3 w0 w g1 b1 g2 b2 g3 b3) : W3 w0 w g2 b2 g1 b1 g3 b3 := by
  obtain ⟨G1, G2, G3, h1, h2, h3, k1, k2, k3, l1, l2, l3, hb⟩ := h
  exact ⟨G2, G1, G3, h2, h1, h3, k1.symm, k3, k2, l2, l1, l3, hb⟩
theorem W3.turn (h : W3 w0 w g1 b1 g2 b2 g3 b3) : W3 w0 w g3 b3 g2 b2 g1 b1 := by
  obtain ⟨G1, G2, G3, h1, h2, h3, k1, k2, k3, l1, l2, l3, hb⟩ := h
  exact ⟨G3, G2, G1, h3, h2, h1, k3.symm, k2.symm, k1.symm, l3, l2, l1, hb⟩
theorem W3.new (h : W3 w0 w g1 b1 g2 b2 g3 b3) : WNew w0 w g1 b1 := by
  obtain ⟨G1, G2, G3, ⟨a, c, h1⟩, h2, h3, k1, k2, k3, l1, l2, l3, hb⟩ := h
  exact ⟨a, c, G1, h1, l1 g1 0 (.inl rfl), fun b o h => l1 b o (.inr h), hb⟩
theorem W3.later (h : W3 w0 w g1 b1 g2 b2 g3 b3) (hb : Below w.heap.size w w') : W3 w0 w' g1 b1 g2 b2 g3 b3 := by
  obtain ⟨G1, G2, G3, ⟨a, c, h1⟩, ⟨a2, c2, h2⟩, ⟨a3, c3, h3⟩, k1, k2, k3, l1, l2, l3, hb0⟩ := h
  exact ⟨G1, G2, G3, ⟨a, c, h1.later hb⟩, ⟨a2, c2, h2.later hb⟩, ⟨a3, c3, h3.later hb⟩, k1, k2, k3, l1, l2, l3, hb0.trans (hb.mono hb0.size)⟩
theorem W3.writes {G1 G2 G3 : Foot} {a2 a3 : Option Addr} {c2 c3 : Nat} (h2 : Wr w g2 G2 a2 c2 b2) (h3 : Wr w g3 G3 a3 c3 b3) (k1 : Apart (wf g1 G1) (wf g2 G2)) (k2 : Apart (wf g1 G1) (wf g3 G3)) (k3 : Apart (wf g2 G2) (wf g3 G3))
    (l1 : ∀ b o, wf g1 G1 b o → w0.heap.size ≤ b) (l2 : ∀ b o, wf g2 G2 b o → w0.heap.size ≤ b) (l3 : ∀ b o, wf g3 G3 b o → w0.heap.size ≤ b) (hb : Below w0.heap.size w0 w) (h : Writes w g1 G1 b1' w') : W3 w0 w' g1 b1' g2 b2 g3 b3 := by
  obtain ⟨a', c', G', e1, e2, e3⟩ := h
  have hgrow : ∀ b o, wf g1 G' b o → wf g1 G1 b o ∨ w.heap.size ≤ b := fun b o hw => by
    rcases hw with e | hw
    · exact .inl (.inl e)
    · rcases e3 b o hw with h | h
      · exact .inl (.inr h)
      · exact .inr h
  have hap : ∀ F : Foot, Apart (wf g1 G1) F → Lies w F → Apart (wf g1 G') F := fun F hA hl b o hw hf => by
    rcases hgrow b o hw with h | h
    · exact hA b o h hf
    · have := hl b o hf; omega
  refine ⟨G', G2, G3, ⟨a', c', e1⟩, ⟨a2, c2, h2.fr e2 k1.symm⟩, ⟨a3, c3, h3.fr e2 k2.symm⟩, hap _ k1 h2.lies2, hap _ k2 h3.lies2, k3, fun b o hw => ?_, l2, l3, hb.trans (e2.below hb.size l1)⟩
  rcases hgrow b o hw with h | h
  · exact l1 b o h
  · have := hb.size; omega
theorem W3.start (hb : Below w0.heap.size w0 w) (t : TypeId) : W3 w0 (((w.alloc (.cells #[.slice none 0 0] t)).alloc (.cells #[.slice none 0 0] t)).alloc (.cells #[.slice none 0 0] t)) w.heap.size [] (w.heap.size + 1) [] (w.heap.size + 2) [] := by
  have e1 : (w.alloc (.cells #[.slice none 0 0] t)).heap.size = w.heap.size + 1 := by simp
  have e2 : ((w.alloc (.cells #[.slice none 0 0] t)).alloc (.cells #[.slice none 0 0] t)).heap.size = w.heap.size + 2 := by simp
  have h1 := Wr.made w t
  have h2 := Wr.made (w.alloc (.cells #[.slice none 0 0] t)) t
  have h3 := Wr.made ((w.alloc (.cells #[.slice none 0 0] t)).alloc (.cells #[.slice none 0 0] t)) t
  rw [e1] at h2
  rw [e2] at h3
  have hs := hb.size
  have ap : ∀ x y, x ≠ y → Apart (wf x noCells) (wf y noCells) := fun x y hne b o h1 h2 => by
    rcases h1 with h1 | h1
    · rcases h2 with h2 | h2
      · exact hne (h1.symm.trans h2)
      · exact h2
    · exact h1
  have lw : ∀ x, w0.heap.size ≤ x → ∀ b o, wf x noCells b o → w0.heap.size ≤ b := fun x hx b o h => by
    rcases h with h | h
    · omega
    · exact h.elim
  exact ⟨noCells, noCells, noCells, ⟨_, _, (h1.later (al1' _ _)).later (al1' _ _)⟩, ⟨_, _, h2.later (al1' _ _)⟩, ⟨_, _, h3⟩, ap _ _ (by omega), ap _ _ (by omega), ap _ _ (by omega), lw _ hs, lw _ (by omega), lw _ (by omega),
    ((hb.trans ((al1' w _).mono hs)).trans ((al1' _ _).mono (by simp; omega))).trans ((al1' _ _).mono (by simp; omega))⟩
end
section
variable (w0 : World) (g1 : Nat) (b1 : List UInt8) (g2 : Nat) (b2 : List UInt8) (g3 : Nat) (b3 : List UInt8)
theorem w3Uint (n : Nat) (hn : n < 9223372036854775808) (hb : b1.length ≤ 1000000) (w : World) (h : W3 w0 w g1 b1 g2 b2 g3 b3) :
    Calls Try.prog 24 #[.pointer (some ⟨g1, 0, none⟩), .int .i64 n] w fun e w' => e = .returned (.int .i64 0) ∧ W3 w0 w' g1 (b1 ++ Fd.grp n) g2 b2 g3 b3 := by
  obtain ⟨G1, G2, G3, ⟨a, c, h1⟩, ⟨a2, c2, h2⟩, ⟨a3, c3, h3⟩, k1, k2, k3, l1, l2, l3, hb0⟩ := h
  exact (wUint_any g1 G1 a c b1 n hn hb w h1).mono fun e w' ⟨e1, e2⟩ => ⟨e1, W3.writes h2 h3 k1 k2 k3 l1 l2 l3 hb0 e2⟩
theorem w3Int (v : Int) (hv : Fd.In v) (hb : b1.length ≤ 1000000) (w : World) (h : W3 w0 w g1 b1 g2 b2 g3 b3) :
    Calls Try.prog 27 #[.pointer (some ⟨g1, 0, none⟩), .int .i64 v] w fun e w' => e = .returned (.int .i64 0) ∧ W3 w0 w' g1 (b1 ++ Fd.grp (Fd.zig v)) g2 b2 g3 b3 := by
  obtain ⟨G1, G2, G3, ⟨a, c, h1⟩, ⟨a2, c2, h2⟩, ⟨a3, c3, h3⟩, k1, k2, k3, l1, l2, l3, hb0⟩ := h
  exact (wInt_any g1 G1 a c b1 v hv hb w h1).mono fun e w' ⟨e1, e2⟩ => ⟨e1, W3.writes h2 h3 k1 k2 k3 l1 l2 l3 hb0 e2⟩
theorem w3Text (s : List UInt8) (hs : s.length ≤ 65536) (hb : b1.length ≤ 1000000) (w : World) (h : W3 w0 w g1 b1 g2 b2 g3 b3) :
    Calls Try.prog 29 #[.pointer (some ⟨g1, 0, none⟩), .string ⟨s.toArray⟩] w fun e w' => e = .returned (.int .i64 0) ∧ W3 w0 w' g1 (b1 ++ (Fd.grp s.length ++ s)) g2 b2 g3 b3 := by
  obtain ⟨G1, G2, G3, ⟨a, c, h1⟩, ⟨a2, c2, h2⟩, ⟨a3, c3, h3⟩, k1, k2, k3, l1, l2, l3, hb0⟩ := h
  exact (wText_any g1 G1 a c b1 s hs hb w h1).mono fun e w' ⟨e1, e2⟩ => ⟨e1, W3.writes h2 h3 k1 k2 k3 l1 l2 l3 hb0 e2⟩
end
end Go.Proofs.Ytapjdcofnigjhaa
