/- Ranges over functions: more on bodies that collect. -/
import Derived.Test.YtgoegdlhbadlfaaDoorIter
namespace Go.Proofs.YtgoegdlhbadlfaaDoor
open Go.RowKit
/-- Behind the append, ahead of the store: the box holds what it held. -/
theorem Coll.after {W0 W1 Wa W2 : World} {Bx : Nat} {u : Value} {F : Foot} {K : Nat → Prop} (hB : Bx < W0.heap.size) (h3 : ∀ k o, F k o → W0.heap.size ≤ k ∧ ¬ K k) (hc : W1.cell? ⟨Bx, 0, none⟩ = some u) (hf : W1.frozen? ⟨Bx, 0, none⟩ = false) (hb : Below W1.heap.size W1 Wa) (k2 : Fr F Wa W2) :
    W2.cell? ⟨Bx, 0, none⟩ = some u ∧ W2.frozen? ⟨Bx, 0, none⟩ = false := by
  have nF : ∀ o, ¬ F Bx o := fun o h => by have := (h3 Bx o h).1; omega
  have hlt := block_of_cell hc
  have hs := hb.size
  exact ⟨(k2.cell Bx 0 (Nat.lt_of_lt_of_le hlt hs) (nF 0)).trans (old_cell hc hb), (k2.froz Bx 0 (Nat.lt_of_lt_of_le hlt hs) (nF 0)).trans ((hb.frozen (p := ⟨Bx, 0, none⟩) hlt).trans hf)⟩
theorem eql_func_nil {P : Program} {t : TypeId} {ps rs : Array TypeId} {vr : Bool} (ht : P.underlying t = some (.func ps rs vr)) (f : Fn) (x y : Array Value) (w : World) : (binOp .eql t (.func f x y) .nilFunc).run P w = .ok (.bool false) w := by
  have h : ∀ d : Nat, (Op.equalIn (d + 1) t (.func f x y) .nilFunc).run P w = .ok false w := fun d => by
    simp [Op.equalIn, run_underlying ht]
  simp only [binOp]
  simp [Op.equal, Op.maxDepth, h 9999]
section
variable {α : Type} {W0 : World} {Bx : Nat} {K : Nat → Prop} {pre : List α} {x : α}
/-- A box (Bx) holds what is reckoned of what has come; the loop began in W0. -/
def Boxd (f : List α → Value) (W0 : World) (Bx : Nat) (K : Nat → Prop) (pre : List α) (W : World) : Prop :=
  W.cell? ⟨Bx, 0, none⟩ = some (f pre) ∧ W.frozen? ⟨Bx, 0, none⟩ = false ∧ Fr (fun k _ => k = Bx) W0 W ∧ ∀ k, K k → W0.heap.size ≤ k ∧ k < W.heap.size
theorem Boxd.clos {f : List α → Value} (hB : Bx < W0.heap.size) : Clos (Boxd f W0 Bx) := by
  intro K K' pre W W' ⟨h4, h5, h6, h7⟩ hf hK
  have hBK : ¬ K Bx := fun h => by have := (h7 Bx h).1; omega
  have hW := h6.size
  refine ⟨cell_fr hf h4 hBK, (hf.froz Bx 0 (by omega) hBK).trans h5, h6.trans hf (fun b o hb => .inr (h7 b hb).1), fun k hk => ?_⟩
  have := hf.size
  rcases hK k hk with h | h
  · have := h7 k h; omega
  · omega
theorem Boxd.start {f : List α → Value} (hc : W0.cell? ⟨Bx, 0, none⟩ = some (f [])) (hf : W0.frozen? ⟨Bx, 0, none⟩ = false) : Boxd f W0 Bx (fun _ => False) [] W0 :=
  ⟨hc, hf, Fr.refl _ _, fun _ h => h.elim⟩
theorem Boxd.step {f : List α → Value} {W1 Wa : World} (hB : Bx < W0.heap.size) (h : Boxd f W0 Bx K pre W1) (hb : Below W1.heap.size W1 Wa) (R : Nat → Prop) (hR : ∀ k, R k → k ≠ Bx) :
    Fr (fun k _ => ¬ K k ∧ ¬ R k) W1 (Wa.setCell ⟨Bx, 0, none⟩ (f (pre ++ [x]))) ∧ Boxd f W0 Bx K (pre ++ [x]) (Wa.setCell ⟨Bx, 0, none⟩ (f (pre ++ [x]))) := by
  obtain ⟨h4, h5, h6, h7⟩ := h
  have hBK : ¬ K Bx := fun h => by have := (h7 Bx h).1; omega
  have hW := h6.size
  have hset := fr_own' Wa Bx (f (pre ++ [x]))
  have f1 := Fr.ofBelow hb (noCells)
  refine ⟨(f1.mono (fun _ _ h => h.elim)).trans hset (fun b o h => .inl ?_), World.cell?_setCell_same' _ _ _ (by rw [old_cell h4 hb]; rfl), by rw [World.frozen?_setCell]; exact (hb.frozen (p := ⟨Bx, 0, none⟩) (show Bx < W1.heap.size by omega)).trans h5, (h6.trans f1 (fun _ _ h => h.elim)).trans hset (fun b o h => .inl h.1), fun k hk => ?_⟩
  · obtain ⟨rfl, rfl⟩ := h
    exact ⟨hBK, fun hr => hR _ hr rfl⟩
  · have := h7 k hk; have := hb.size; simp; omega
theorem Boxd.drew {f : List α → Value} {W1 : World} (h : Boxd f W0 Bx K pre W1) : Boxd f W0 Bx K pre W1.drew := ⟨h.1, h.2.1, h.2.2.1.drew, h.2.2.2⟩
end
section
variable {α : Type} {size : Nat} {V : List α → List Value} {W0 W1 W2 : World} {Bx : Nat} {K0 K : Nat → Prop} {pre : List α} {x : α}
/-- .. where the iterator has blocks of its own from the beginning (K0). -/
def Coll2 (size : Nat) (V : List α → List Value) (W0 : World) (Bx : Nat) (K0 : Nat → Prop) (K : Nat → Prop) (pre : List α) (W : World) : Prop :=
  ∃ (F : Foot) (a : Option Addr) (c : Nat), Sl W size F a pre.length c (V pre) ∧ Lies W F ∧ (∀ k o, F k o → W0.heap.size ≤ k ∧ ¬ K k) ∧ W.cell? ⟨Bx, 0, none⟩ = some (.slice a pre.length c) ∧ W.frozen? ⟨Bx, 0, none⟩ = false ∧
    Fr (fun k _ => k = Bx ∨ K0 k) W0 W ∧ ∀ k, K k → K0 k ∨ (W0.heap.size ≤ k ∧ k < W.heap.size)
theorem Coll2.clos (hB : Bx < W0.heap.size) (hn : ¬ K0 Bx) (_h0 : ∀ k, K0 k → k < W0.heap.size) : Clos (Coll2 size V W0 Bx K0) := by
  intro K K' pre W W' ⟨F, a, c, h1, h2, h3, h4, h5, h6, h7⟩ hf hK
  have hBK : ¬ K Bx := fun h => (h7 Bx h).elim hn (fun h => by omega)
  have hW := h6.size
  refine ⟨F, a, c, h1.fr hf (fun b o hb hk => (h3 b o hb).2 hk), h2.later hf, fun k o hk => ⟨(h3 k o hk).1, fun hk' => ?_⟩, cell_fr hf h4 hBK, (hf.froz Bx 0 (by omega) hBK).trans h5, h6.trans hf (fun b o hb => (h7 b hb).imp .inr (fun h => h.1)), fun k hk => ?_⟩
  · rcases hK k hk' with h | h
    · exact (h3 k o hk).2 h
    · have := h2 k o hk; omega
  · have := hf.size
    rcases hK k hk with h | h
    · rcases h7 k h with h | h
      · exact .inl h
      · exact .inr (by omega)
    · exact .inr (by omega)
theorem Coll2.start (hV : V [] = []) (hc : W0.cell? ⟨Bx, 0, none⟩ = some (.slice none 0 0)) (hf : W0.frozen? ⟨Bx, 0, none⟩ = false) : Coll2 size V W0 Bx K0 K0 [] W0 :=
  ⟨noCells, none, 0, by rw [hV]; exact Sl.none_ W0 size, fun _ _ h => h.elim, fun _ _ h => h.elim, hc, hf, Fr.refl _ _, fun _ h => .inl h⟩
theorem Coll2.after {Wa W2 : World} {u : Value} {F : Foot} (hB : Bx < W0.heap.size) (h3 : ∀ k o, F k o → W0.heap.size ≤ k ∧ ¬ K k) (hc : W1.cell? ⟨Bx, 0, none⟩ = some u) (hf : W1.frozen? ⟨Bx, 0, none⟩ = false) (hb : Below W1.heap.size W1 Wa) (k2 : Fr F Wa W2) :
    W2.cell? ⟨Bx, 0, none⟩ = some u ∧ W2.frozen? ⟨Bx, 0, none⟩ = false := Coll.after hB h3 hc hf hb k2
theorem Coll2.step (hB : Bx < W0.heap.size) (hn : ¬ K0 Bx) (h0 : ∀ k, K0 k → k < W0.heap.size) {F : Foot} {Wa W2 : World} {a' : Option Addr} {c' : Nat} {F' : Foot} (_h2 : Lies W1 F) (h3 : ∀ k o, F k o → W0.heap.size ≤ k ∧ ¬ K k) (h6 : Fr (fun k _ => k = Bx ∨ K0 k) W0 W1) (h7 : ∀ k, K k → K0 k ∨ (W0.heap.size ≤ k ∧ k < W1.heap.size))
    (hb : Below W1.heap.size W1 Wa) (k1 : Sl W2 size F' a' (pre ++ [x]).length c' (V (pre ++ [x]))) (k2 : Fr F Wa W2) (k3 : Grew Wa F F') (k4 : Lies W2 F') (hcB : (W1.cell? ⟨Bx, 0, none⟩).isSome = true) (hfB : W1.frozen? ⟨Bx, 0, none⟩ = false) (R : Nat → Prop) (hR : ∀ k, R k → k < W0.heap.size ∧ k ≠ Bx) :
    Fr (fun k _ => ¬ K k ∧ ¬ R k) W1 (W2.setCell ⟨Bx, 0, none⟩ (.slice a' (pre ++ [x]).length c')) ∧ Coll2 size V W0 Bx K0 K (pre ++ [x]) (W2.setCell ⟨Bx, 0, none⟩ (.slice a' (pre ++ [x]).length c')) := by
  have hBK : ¬ K Bx := fun h => (h7 Bx h).elim hn (fun h => by omega)
  have hW := h6.size
  have hW2 := hb.size
  have hW3 := k2.size
  have nF : ∀ o, ¬ F Bx o := fun o h => by have := (h3 Bx o h).1; omega
  have nF' : ∀ o, ¬ F' Bx o := fun o h => by
    rcases k3 Bx o h with h | h
    · exact nF o h
    · omega
  have f1 : Fr (fun k o => F k o) W1 W2 := (Fr.ofBelow hb (fun k o => F k o)).trans k2 (fun _ _ h => .inl h)
  have hset := fr_own' W2 Bx (.slice a' (pre ++ [x]).length c')
  refine ⟨(f1.mono (fun k o h => ⟨(h3 k o h).2, fun hr => by have := hR k hr; have := (h3 k o h).1; omega⟩)).trans hset (fun b o h => ?_), F', a', c', k1.fr hset (fun b o h h' => ?_), k4.later hset, fun k o hk => ?_, ?_, by rw [World.frozen?_setCell]; exact (f1.froz Bx 0 (by omega) (nF 0)).trans hfB, ?_, fun k hk => ?_⟩
  · obtain ⟨rfl, rfl⟩ := h
    exact .inl ⟨hBK, fun hr => (hR _ hr).2 rfl⟩
  · obtain ⟨rfl, rfl⟩ := h'
    exact nF' _ h
  · rcases k3 k o hk with h | h
    · exact h3 k o h
    · refine ⟨by omega, fun hk' => ?_⟩
      rcases h7 k hk' with h | h
      · have := h0 k h; omega
      · omega
  · refine World.cell?_setCell_same' _ _ _ ?_
    rw [f1.cell Bx 0 (by omega) (nF 0)]; exact hcB
  · refine (h6.trans f1 (fun b o h => .inr (h3 b o h).1)).trans hset (fun b o h => .inl (.inl h.1))
  · rcases h7 k hk with h | h
    · exact .inl h
    · exact .inr ⟨h.1, by simp; omega⟩
end
end Go.Proofs.YtgoegdlhbadlfaaDoor
