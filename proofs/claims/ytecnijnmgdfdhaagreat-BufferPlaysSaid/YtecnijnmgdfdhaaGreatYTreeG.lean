/- Joined: Tree35, Tree36. -/
import Derived.Test.YtecnijnmgdfdhaaGreatYTreeE
import Derived.Test.YtecnijnmgdfdhaaGreatYTreeC
import Derived.Test.YtecnijnmgdfdhaaGreatYTr
import Derived.Test.YtecnijnmgdfdhaaGreatYSep
namespace Go.Proofs.YtecnijnmgdfdhaaGreat
open Go.RowKit Tr
open Ky (less)
theorem Sx.first {w V : World} {F : Foot} {a : Option Addr} {c : Nat} {ps : List Pr} {t : TypeId} (hs : Sl V 2 F a ps.length c (pairsV ps)) (hl : Lies V F) (hF : ∀ k x, F k x → w.heap.size ≤ k) (hb : Below w.heap.size w V) :
  Sx w noCells (V.alloc (.cells #[.slice a ps.length c, .slice none 0 0] t)) [⟨.mk V.heap.size F noCells ps [], a, c, none, 0⟩] [] := by
 have hT : Top (V.alloc (.cells #[.slice a ps.length c, .slice none 0 0] t)) (.mk V.heap.size F noCells ps []) a c none 0 :=
  ⟨by simp [G.b, G.ps], by simp [G.b, G.ks], by simp [G.b], by simp [G.b], hs.laid _, Sl.none_ _ 1, fun _ _ _ h => h, fun o h => Nat.lt_irrefl _ (hl _ _ h), fun _ h => h, hl.laid _, fun _ _ h => h.elim⟩
 refine ⟨⟨fun t ht => ?_, (fun u hu => by cases hu), (by simp), (Fr.ofBelow (hb.trans ((al1 V _).mono hb.size)) noCells), fun f hf b o hbo => ?_⟩, fun t ht => ?_⟩
 ·simp at ht; subst ht; exact ⟨_, _, _, _, hT⟩
 ·simp at hf; subst hf
  rcases hbo with h | h | h
  ·refine .inr ?_
   have : b = V.heap.size := h
   have := hb.size
   omega
  ·exact .inr (hF b o h)
  ·exact h.elim
 ·simp at ht; subst ht; exact hT
end Go.Proofs.YtecnijnmgdfdhaaGreat

namespace Go.Proofs.YtecnijnmgdfdhaaGreat
open Go.RowKit Tr
open Ky (less)
theorem Good.like {o h : Nat} {g g' : G} (hg : Good o h g) (hl : Like h g g') : Good o h g' :=
 ⟨hg.o2, hg.o16, hl.kids hg.kids, by rw [hl.flat]; exact hg.sorted, by rw [hl.ps]; exact hg.hi, fun h0 => by rw [hl.ps]; exact hg.pos h0⟩
end Go.Proofs.YtecnijnmgdfdhaaGreat
