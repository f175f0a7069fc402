/- Joined: Sep, RegH. -/
import Derived.Test.YtecnijnmgdfdhaaGreatYKit
import Derived.OrdersHeld
import Derived.Deep.RegionHeld
namespace Go.Proofs.YtecnijnmgdfdhaaGreat
open Go.RowKit

structure Rs where
 R : World → Foot → Prop
 fr : ∀ {S F : Foot} {w w' : World}, R w F → Fr S w w' → Apart F S → R w' F
 lies : ∀ {F : Foot} {w : World}, R w F → Lies w F
def SepF : List Rs → World → Foot → Prop
 | [], _, F => ∀ b o, ¬ F b o
 | R :: L, w, F => ∃ F1 F2 : Foot, (∀ b o, F b o ↔ F1 b o ∨ F2 b o) ∧ Apart F1 F2 ∧ R.R w F1 ∧ SepF L w F2
theorem SepF.fr {S : Foot} {w w' : World} (hf : Fr S w w') : ∀ {L : List Rs} {F : Foot}, SepF L w F → Apart F S → SepF L w' F
 | [], _, h, _ => h
 | R :: _L, _F, ⟨F1, F2, e, ha, h1, h2⟩, hd => ⟨F1, F2, e, ha, R.fr h1 hf (fun b o h => hd b o ((e b o).2 (.inl h))), SepF.fr hf h2 (fun b o h => hd b o ((e b o).2 (.inr h)))⟩
theorem SepF.lies {w : World} : ∀ {L : List Rs} {F : Foot}, SepF L w F → Lies w F
 | [], _, h => fun b o hb => (h b o hb).elim
 | R :: L, F, ⟨F1, F2, e, _, h1, h2⟩ => fun b o hb => by
  rcases (e b o).1 hb with h | h
  ·exact R.lies h1 b o h
  ·exact SepF.lies h2 b o h
theorem SepF.perm {w : World} {L L' : List Rs} (h : L.Perm L') : ∀ {F : Foot}, SepF L w F → SepF L' w F := by
 induction h with
 | nil => exact fun h => h
 | cons R _ ih => rintro F ⟨F1, F2, e, ha, h1, h2⟩; exact ⟨F1, F2, e, ha, h1, ih h2⟩
 | swap A B L =>
  rintro F ⟨F1, F2, e, ha, h1, G1, G2, e2, ha2, k1, k2⟩
  refine ⟨G1, fun b o => F1 b o ∨ G2 b o, fun b o => ?_, fun b o hg h => ?_, k1, F1, G2, fun b o => Iff.rfl, fun b o h1 h2 => ha b o h1 ((e2 b o).2 (.inr h2)), h1, k2⟩
  ·rw [e, e2]; exact ⟨fun h => by rcases h with h | h | h <;> simp [h], fun h => by rcases h with h | h | h <;> simp [h]⟩
  ·rcases h with h | h
   ·exact ha b o h ((e2 b o).2 (.inl hg))
   ·exact ha2 b o hg h
 | trans _ _ ih1 ih2 => exact fun h => ih2 (ih1 h)
def Turn (L2 : List Rs) (w : World) (F : Foot) (V : World) : Prop := ∃ F', SepF L2 V F' ∧ Fr F w V ∧ Grew w F F'
def Own (B : Nat) (w0 : World) (L : List Rs) (w : World) : Prop := B ≤ w0.heap.size ∧ Below B w0 w ∧ ∃ F, SepF L w F ∧ ∀ b o, F b o → B ≤ b
section
variable {B : Nat} {w0 w V : World} {L L' X : List Rs} {R A C : Rs}
theorem Own.perm (h : Own B w0 L w) (hp : L.Perm L') : Own B w0 L' w := by
 obtain ⟨hB, hb, F, h1, h2⟩ := h
 exact ⟨hB, hb, F, h1.perm hp, h2⟩
theorem Own.swap (h : Own B w0 (A :: C :: X) w) : Own B w0 (C :: A :: X) w := h.perm (.swap _ _ _)
theorem Own.low (h : Own B w0 L w) : Below B w0 w := h.2.1
theorem Own.size (h : Own B w0 L w) : B ≤ w.heap.size := Nat.le_trans h.1 h.2.1.size
theorem Own.later (h : Own B w0 L w) (hb : Below w.heap.size w V) : Own B w0 L V := by
 obtain ⟨hB, hb0, F, h1, h2⟩ := h
 exact ⟨hB, hb0.trans (hb.mono (Nat.le_trans hB hb0.size)), F, h1.fr (Fr.ofBelow hb noCells) (fun _ _ _ h => h), h2⟩
theorem Own.drop (h : Own B w0 (R :: L) w) : Own B w0 L w := by
 obtain ⟨hB, hb0, F, ⟨F1, F2, e, ha, h1, h3⟩, h2⟩ := h
 exact ⟨hB, hb0, F2, h3, fun b o hb => h2 b o ((e b o).2 (.inr hb))⟩
theorem Own.nil (w : World) : Own w.heap.size w [] w := ⟨Nat.le_refl _, Below.refl _ _, noCells, fun _ _ h => h, fun _ _ h => h.elim⟩
theorem Own.since {B2 : Nat} (h : Own B2 w L V) (h0 : Own B w0 X w) (hB : B ≤ B2) : Own B w0 L V := by
 obtain ⟨hB2, hb, F, h1, h2⟩ := h
 exact ⟨h0.1, h0.2.1.trans (hb.mono hB), F, h1, fun b o hf => Nat.le_trans hB (h2 b o hf)⟩
theorem SepF.append : ∀ {L X : List Rs} {w : World} {F : Foot}, SepF (L ++ X) w F → ∃ F1 F2 : Foot, (∀ b o, F b o ↔ F1 b o ∨ F2 b o) ∧ Apart F1 F2 ∧ SepF L w F1 ∧ SepF X w F2
 | [], _, _, F, h => ⟨noCells, F, fun b o => ⟨.inr, fun h => h.resolve_left (fun h => h)⟩, fun _ _ h => h.elim, fun _ _ h => h, h⟩
 | R :: L, X, w, F, ⟨F1, F2, e, ha, h1, h2⟩ => by
  obtain ⟨G1, G2, e2, ha2, k1, k2⟩ := SepF.append (L := L) h2
  refine ⟨fun b o => F1 b o ∨ G1 b o, G2, fun b o => ?_, fun b o h h' => ?_, ⟨F1, G1, fun b o => Iff.rfl, fun b o h h' => ha b o h ((e2 b o).2 (.inl h')), h1, k1⟩, k2⟩
  ·rw [e, e2]; exact ⟨fun h => by rcases h with h | h | h <;> simp [h], fun h => by rcases h with (h | h) | h <;> simp [h]⟩
  ·rcases h with h | h
   ·exact ha b o h ((e2 b o).2 (.inr h'))
   ·exact ha2 b o h h'
theorem SepF.join : ∀ {L X : List Rs} {w : World} {F F1 F2 : Foot}, (∀ b o, F b o ↔ F1 b o ∨ F2 b o) → Apart F1 F2 → SepF L w F1 → SepF X w F2 → SepF (L ++ X) w F
 | [], _, _, F, F1, F2, e, _, h1, h2 => by
  have : F = F2 := by funext b o; exact propext ((e b o).trans ⟨fun h => h.resolve_left (h1 b o), .inr⟩)
  subst this; exact h2
 | R :: L, X, w, F, F1, F2, e, ha, ⟨G1, G2, e2, ha2, k1, k2⟩, h2 => by
  refine ⟨G1, fun b o => G2 b o ∨ F2 b o, fun b o => ?_, fun b o h h' => ?_, k1, SepF.join (fun b o => Iff.rfl) (fun b o h h' => ha b o ((e2 b o).2 (.inr h)) h') k2 h2⟩
  ·rw [e, e2]; exact ⟨fun h => by rcases h with (h | h) | h <;> simp [h], fun h => by rcases h with h | h | h <;> simp [h]⟩
  ·rcases h' with h' | h'
   ·exact ha2 b o h h'
   ·exact ha b o ((e2 b o).2 (.inl h)) h'
theorem SepF.turn {F : Foot} (h : SepF (L ++ X) w F) (k : ∀ F1, SepF L w F1 → Turn L' w F1 V) : Turn (L' ++ X) w F V := by
 obtain ⟨F1, F2, e, ha, h1, h2⟩ := SepF.append h
 obtain ⟨F1', k1, k2, k3⟩ := k F1 h1
 refine ⟨fun b o => F1' b o ∨ F2 b o, SepF.join (fun b o => Iff.rfl) ((ha.symm.grew h2.lies k3).symm) k1 (h2.fr k2 ha.symm), k2.mono (fun b o h => (e b o).2 (.inl h)), fun b o h => ?_⟩
 rcases h with h | h
 ·rcases k3 b o h with h | h
  ·exact .inl ((e b o).2 (.inl h))
  ·exact .inr h
 ·exact .inl ((e b o).2 (.inr h))
theorem Own.turn (h : Own B w0 (L ++ X) w) (k : ∀ F1, SepF L w F1 → Turn L' w F1 V) : Own B w0 (L' ++ X) V := by
 obtain ⟨hB, hb0, F, h1, h2⟩ := h
 obtain ⟨F', k1, k2, k3⟩ := h1.turn k
 have hs := Nat.le_trans hB hb0.size
 refine ⟨hB, hb0.trans (k2.below hs h2), F', k1, fun b o hb => ?_⟩
 rcases k3 b o hb with h | h
 ·exact h2 b o h
 ·omega
theorem SepF.one {F : Foot} (h : R.R w F) : SepF [R] w F := ⟨F, noCells, fun _b _o => ⟨.inl, fun h => h.resolve_right (fun h => h)⟩, fun _ _ _ h => h, h, fun _ _ h => h⟩
theorem SepF.get {F : Foot} (h : SepF [R] w F) : R.R w F := by
 obtain ⟨F1, F2, e, _, h1, h2⟩ := h
 have : F = F1 := by funext b o; exact propext ((e b o).trans ⟨fun h => h.resolve_right (h2 b o), .inl⟩)
 rw [this]; exact h1
theorem Own.get (h : Own B w0 (R :: L) w) : ∃ F, R.R w F ∧ ∀ b o, F b o → B ≤ b := by
 obtain ⟨_, _, F, ⟨F1, F2, e, _, h1, _⟩, h2⟩ := h
 exact ⟨F1, h1, fun b o hb => h2 b o ((e b o).2 (.inl hb))⟩
theorem Own.add (h : Own B w0 L w) (hb : Below w.heap.size w V) {F : Foot} (hR : R.R V F) (hF : ∀ b o, F b o → w.heap.size ≤ b) : Own B w0 (R :: L) V := by
 obtain ⟨hB, hb0, F2, h1, h2⟩ := h
 have hs := Nat.le_trans hB hb0.size
 refine ⟨hB, hb0.trans (hb.mono hs), fun b o => F b o ∨ F2 b o, ⟨F, F2, fun b o => Iff.rfl, fun b o h h' => ?_, hR, h1.fr (Fr.ofBelow hb noCells) (fun _ _ _ h => h)⟩, fun b o h => ?_⟩
 ·have := hF b o h; have := h1.lies b o h'; omega
 ·rcases h with h | h
  ·exact Nat.le_trans hs (hF b o h)
  ·exact h2 b o h
theorem Own.beside (h : Own B w0 L w) (k : Own w.heap.size w L' V) : Own B w0 (L' ++ L) V := by
 obtain ⟨hB, hb0, F2, h1, h2⟩ := h
 obtain ⟨_, hb, F, k1, k2⟩ := k
 have hs := Nat.le_trans hB hb0.size
 refine ⟨hB, hb0.trans (hb.mono hs), fun b o => F b o ∨ F2 b o, SepF.join (fun b o => Iff.rfl) (fun b o h h' => ?_) k1 (h1.fr (Fr.ofBelow hb noCells) (fun _ _ _ h => h)), fun b o h => ?_⟩
 ·have := k2 b o h; have := h1.lies b o h'; omega
 ·rcases h with h | h
  ·exact Nat.le_trans hs (k2 b o h)
  ·exact h2 b o h
theorem Own.imp (h : Own B w0 (R :: L) w) (k : ∀ F, R.R w F → A.R w F) : Own B w0 (A :: L) w := by
 obtain ⟨hB, hb0, F, ⟨F1, F2, e, ha, h1, h3⟩, h2⟩ := h
 exact ⟨hB, hb0, F, ⟨F1, F2, e, ha, k F1 h1, h3⟩, h2⟩
theorem Turn.later {F : Foot} {W : World} (h : Turn L w F V) (hb : Below V.heap.size V W) : Turn L w F W := by
 obtain ⟨F', h1, h2, h3⟩ := h
 exact ⟨F', h1.fr (Fr.ofBelow hb noCells) (fun _ _ _ h => h), h2.trans (Fr.ofBelow hb noCells) (fun _ _ h => h.elim), h3⟩
theorem Turn.trans {F : Foot} {W : World} (h : Turn L w F V) (k : ∀ F1, SepF L V F1 → Turn L' V F1 W) : Turn L' w F W := by
 obtain ⟨F1, h1, h2, h3⟩ := h
 obtain ⟨F2, k1, k2, k3⟩ := k F1 h1
 exact ⟨F2, k1, h2.trans k2 h3, h3.trans k3 h2.size⟩
theorem Turn.drop {F : Foot} (h : Turn (R :: L) w F V) : Turn L w F V := by
 obtain ⟨F', ⟨F1, F2, e, _, _, h3⟩, h2, h4⟩ := h
 exact ⟨F2, h3, h2, fun b o hb => h4 b o ((e b o).2 (.inr hb))⟩
theorem Turn.perm {F : Foot} (h : Turn L w F V) (hp : L.Perm L') : Turn L' w F V := by
 obtain ⟨F', h1, h2⟩ := h
 exact ⟨F', h1.perm hp, h2⟩
end
def Held (w0 : World) (F : Foot) (L : List Rs) (w : World) : Prop := Turn L w0 F w
section
variable {w0 w V : World} {F : Foot} {L L' X : List Rs} {R A C : Rs}
theorem Held.start (h : SepF L w F) : Held w F L w := ⟨F, h, Fr.refl F w, Grew.refl w F⟩
theorem Held.turn (h : Held w0 F (L ++ X) w) (k : ∀ F1, SepF L w F1 → Turn L' w F1 V) : Held w0 F (L' ++ X) V := Turn.trans h (fun _ h1 => h1.turn k)
theorem Held.later (h : Held w0 F L w) (hb : Below w.heap.size w V) : Held w0 F L V := Turn.later h hb
theorem Held.swap (h : Held w0 F (A :: C :: X) w) : Held w0 F (C :: A :: X) w := Turn.perm h (.swap _ _ _)
theorem Held.perm (h : Held w0 F L w) (hp : L.Perm L') : Held w0 F L' w := Turn.perm h hp
theorem Held.drop (h : Held w0 F (R :: L) w) : Held w0 F L w := Turn.drop h
theorem Held.get (h : Held w0 F (R :: L) w) : ∃ F, R.R w F := by
 obtain ⟨_, ⟨F1, _, _, _, h1, _⟩, _⟩ := h
 exact ⟨F1, h1⟩
theorem Held.add (h : Held w0 F L w) (hb : Below w.heap.size w V) {F1 : Foot} (hR : R.R V F1) (hF : ∀ b o, F1 b o → w.heap.size ≤ b) : Held w0 F (R :: L) V := by
 obtain ⟨F2, h1, h2, h3⟩ := h
 refine ⟨fun b o => F1 b o ∨ F2 b o, ⟨F1, F2, fun b o => Iff.rfl, fun b o h h' => ?_, hR, h1.fr (Fr.ofBelow hb noCells) (fun _ _ _ h => h)⟩, h2.trans (Fr.ofBelow hb noCells) (fun _ _ h => h.elim), fun b o h => ?_⟩
 ·have := hF b o h; have := h1.lies b o h'; omega
 ·rcases h with h | h
  ·exact .inr (Nat.le_trans h2.size (hF b o h))
  ·exact h3 b o h
theorem Held.imp (h : Held w0 F (R :: L) w) (k : ∀ F, R.R w F → A.R w F) : Held w0 F (A :: L) w := by
 obtain ⟨F', ⟨F1, F2, e, ha, h1, h3⟩, h2⟩ := h
 exact ⟨F', ⟨F1, F2, e, ha, k F1 h1, h3⟩, h2⟩
theorem Held.lies (h : Held w0 F L w) : w0.heap.size ≤ w.heap.size := by
 obtain ⟨_, _, h2, _⟩ := h
 exact h2.size
end

/-! ### Some resources -/
def CellsR (b : Nat) (vs : List Value) : Rs where
 R w F := (∀ k o, F k o ↔ k = b) ∧ b < w.heap.size ∧ ∀ i v, vs[i]? = some v → w.cell? ⟨b, i, none⟩ = some v ∧ w.frozen? ⟨b, i, none⟩ = false
 fr := fun {S F w w'} ⟨h1, h2, h3⟩ hf ha => ⟨h1, hf.lt h2, fun i v hv => by
  have hn : ¬ S b i := ha b i ((h1 b i).2 rfl)
  exact ⟨(hf.cell b i h2 hn).trans (h3 i v hv).1, (hf.froz b i h2 hn).trans (h3 i v hv).2⟩⟩
 lies := fun {F w} ⟨h1, h2, _⟩ b' o h => by rw [(h1 b' o).1 h]; exact h2
theorem CellsR.at {b : Nat} {vs : List Value} {w : World} {F : Foot} (h : (CellsR b vs).R w F) {i : Nat} {v : Value} (hv : vs[i]? = some v) : w.cell? ⟨b, i, none⟩ = some v := (h.2.2 i v hv).1
theorem CellsR.set {b : Nat} {vs : List Value} {w : World} {F : Foot} (h : (CellsR b vs).R w F) {i : Nat} (hi : i < vs.length) (v : Value) : Turn [CellsR b (vs.set i v)] w F (w.setCell ⟨b, i, none⟩ v) := by
 obtain ⟨h1, h2, h3⟩ := h
 refine ⟨F, SepF.one ⟨h1, by simpa using h2, fun j u hu => ?_⟩, (Fr.refl F w).setCell (.inl ((h1 b i).2 rfl)) v, Grew.refl w F⟩
 have hlt : j < vs.length := by have := (List.getElem?_eq_some_iff.1 hu).1; simpa using this
 have hj := h3 j (vs[j]) (List.getElem?_eq_getElem hlt)
 refine ⟨?_, by simpa using hj.2⟩
 by_cases e : j = i
 ·subst e
  rw [List.getElem?_set_self hlt] at hu
  obtain rfl := Option.some.inj hu
  exact World.cell?_setCell_same' _ _ _ (by rw [hj.1]; rfl)
 ·rw [List.getElem?_set_ne (fun e' => e e'.symm)] at hu
  rw [World.cell?_setCell_other _ _ _ _ (fun e' => e (by cases e'; rfl))]
  exact (h3 j u hu).1
end Go.Proofs.YtecnijnmgdfdhaaGreat

namespace Go.Proofs.YtecnijnmgdfdhaaGreat
theorem wpAnyH_mono {P : Program} {md : Region.Mode} {ops : Array Oper} {Q : Exit → Act → World → Prop} {S S' : World → Prop} (hSS : ∀ w, S' w → S w) :
  ∀ (fuel : Nat) (listed : Array Bool) (a : Act) (w : World), wpAnyH P md ops Q S' fuel listed a w → wpAnyH P md ops Q S fuel listed a w
 | 0, _, _, _, h => h
 | fuel + 1, _, _, _, h => ⟨h.1, fun i hi => wpOp_mono (fun _ _ h' => ⟨hSS _ h'.1, wpAnyH_mono hSS fuel _ _ _ h'.2⟩) (h.2 i hi)⟩

end Go.Proofs.YtecnijnmgdfdhaaGreat
