/- Package proc, plain: what is held lies within (Lam); steps without fuel (stepsL). -/
import Derived.Test.YtgoegdlhbadlfaaDoorPr5
namespace Go.Proofs.YtgoegdlhbadlfaaDoor
namespace Pc
/-- What is held ends in time, and within what holds it. -/
structure Lam (l : List OpP) : Prop where
  hold : ∀ (i : Nat) x, l[i]? = some x → holdsP x = true → 0 ≤ x.2.2.2.2 ∧ (i : Int) + 1 + x.2.2.2.2 ≤ l.length
  nest : ∀ (i : Nat) x (j : Nat) y, i < j → l[i]? = some x → l[j]? = some y → holdsP x = true → holdsP y = true → (j : Int) < (i : Int) + 1 + x.2.2.2.2 → (j : Int) + 1 + y.2.2.2.2 ≤ (i : Int) + 1 + x.2.2.2.2
theorem mem_pop {k : Int} : ∀ {es : List Int}, es.Pairwise (· ≤ ·) → ∀ e, e ∈ pop k es ↔ e ∈ es ∧ k < e
  | [], _, e => by simp [pop]
  | x :: es, h, e => by
    obtain ⟨h1, h2⟩ := List.pairwise_cons.1 h
    unfold pop
    split
    · rename_i hx
      rw [mem_pop h2 e]
      constructor
      · rintro ⟨a, b⟩; exact ⟨List.mem_cons_of_mem _ a, b⟩
      · rintro ⟨a, b⟩
        rcases List.mem_cons.1 a with rfl | a
        · omega
        · exact ⟨a, b⟩
    · rename_i hx
      constructor
      · intro a
        refine ⟨a, ?_⟩
        rcases List.mem_cons.1 a with rfl | a
        · omega
        · have := h1 e a; omega
      · exact fun a => a.1
theorem pop_sorted {k : Int} : ∀ {es : List Int}, es.Pairwise (· ≤ ·) → (pop k es).Pairwise (· ≤ ·)
  | [], _ => List.Pairwise.nil
  | x :: es, h => by
    unfold pop
    split
    · exact pop_sorted (List.pairwise_cons.1 h).2
    · exact h
theorem headD_le {es : List Int} {n : Int} (h : es.Pairwise (· ≤ ·)) (hn : ∀ e ∈ es, e ≤ n) : es.headD n ≤ n ∧ ∀ e ∈ es, es.headD n ≤ e := by
  cases es with
  | nil => exact ⟨Int.le_refl _, fun e he => by cases he⟩
  | cons x es =>
    refine ⟨hn x (List.mem_cons_self ..), fun e he => ?_⟩
    rcases List.mem_cons.1 he with rfl | he
    · exact Int.le_refl _
    · exact (List.pairwise_cons.1 h).1 e he
theorem nest_ends (n : Int) : ∀ (l : List OpP) (i : Int) (es : List Int), es.Pairwise (· ≤ ·) → (∀ e ∈ es, e ≤ n) → nestG n l i es = true →
    (∀ (j : Nat) x, l[j]? = some x → holdsP x = true → i + j + 1 + x.2.2.2.2 ≤ n ∧ ∀ e ∈ es, i + j < e → i + j + 1 + x.2.2.2.2 ≤ e) ∧
    (∀ (j : Nat) x (j2 : Nat) y, j < j2 → l[j]? = some x → l[j2]? = some y → holdsP x = true → holdsP y = true → (j2 : Int) < (j : Int) + 1 + x.2.2.2.2 → (j2 : Int) + 1 + y.2.2.2.2 ≤ (j : Int) + 1 + x.2.2.2.2)
  | [], _, _, _, _, _ => ⟨fun j x h => by simp at h, fun j x j2 y _ h => by simp at h⟩
  | z :: l, i, es, hs, hn, h => by
    rw [nestG] at h
    have hs1 := pop_sorted (k := i) hs
    have hn1 : ∀ e ∈ pop i es, e ≤ n := fun e he => hn e ((mem_pop hs e).1 he).1
    have hd := headD_le hs1 hn1
    split at h
    · cases h
    · split at h
      · rename_i hz
        split at h
        · cases h
        · rename_i hend
          have hle : i + 1 + z.2.2.2.2 ≤ (pop i es).headD n := by omega
          have ih := nest_ends n l (i + 1) ((i + 1 + z.2.2.2.2) :: pop i es) (List.pairwise_cons.2 ⟨fun e he => by have := hd.2 e he; omega, hs1⟩)
            (fun e he => by
              rcases List.mem_cons.1 he with rfl | he
              · omega
              · exact hn1 e he) h
          refine ⟨fun j x hj hx => ?_, fun j x j2 y hjj hj hj2 hx hy hlt => ?_⟩
          · cases j with
            | zero =>
              simp at hj; subst hj
              refine ⟨by omega, fun e he hi => ?_⟩
              have := hd.2 e ((mem_pop hs e).2 ⟨he, by omega⟩)
              omega
            | succ j =>
              have := ih.1 j x (by simpa using hj) hx
              refine ⟨by omega, fun e he hi => ?_⟩
              have := this.2 e (List.mem_cons_of_mem _ ((mem_pop hs e).2 ⟨he, by omega⟩)) (by omega)
              omega
          · cases j2 with
            | zero => omega
            | succ j2 =>
              cases j with
              | zero =>
                simp at hj; subst hj
                have := (ih.1 j2 y (by simpa using hj2) hy).2 (i + 1 + z.2.2.2.2) (List.mem_cons_self ..) (by omega)
                omega
              | succ j =>
                have := ih.2 j x j2 y (by omega) (by simpa using hj) (by simpa using hj2) hx hy (by omega)
                omega
      · rename_i hz
        have ih := nest_ends n l (i + 1) (pop i es) hs1 hn1 h
        refine ⟨fun j x hj hx => ?_, fun j x j2 y hjj hj hj2 hx hy hlt => ?_⟩
        · cases j with
          | zero =>
            simp at hj; subst hj
            exact (hz hx).elim
          | succ j =>
            have := ih.1 j x (by simpa using hj) hx
            refine ⟨by omega, fun e he hi => ?_⟩
            have := this.2 e ((mem_pop hs e).2 ⟨he, by omega⟩) (by omega)
            omega
        · cases j2 with
          | zero => omega
          | succ j2 =>
            cases j with
            | zero =>
              simp at hj; subst hj
              exact (hz hx).elim
            | succ j =>
              have := ih.2 j x j2 y (by omega) (by simpa using hj) (by simpa using hj2) hx hy (by omega)
              omega
theorem nested_lam {l : List OpP} (h : nestedP l = true) (h0 : ∀ x ∈ l, holdsP x = true → 0 ≤ x.2.2.2.2) : Lam l := by
  have := nest_ends l.length l 0 [] List.Pairwise.nil (fun e he => by cases he) h
  refine ⟨fun i x hi hx => ⟨h0 x (List.mem_of_getElem? hi) hx, ?_⟩, this.2⟩
  have := (this.1 i x hi hx).1
  omega
theorem Lam.cut {l : List OpP} (h : Lam l) {i : Nat} {x : OpP} (hi : l[i]? = some x) (hx : holdsP x = true) : Lam ((l.drop (i + 1)).take x.2.2.2.2.toNat) := by
  have h1 := h.hold i x hi hx
  have hg : ∀ (j : Nat) y, ((l.drop (i + 1)).take x.2.2.2.2.toNat)[j]? = some y → l[i + 1 + j]? = some y ∧ (j : Int) < x.2.2.2.2 := by
    intro j y hj
    rw [List.getElem?_take] at hj
    split at hj
    · rw [List.getElem?_drop] at hj
      exact ⟨hj, by omega⟩
    · cases hj
  have hlen : (((l.drop (i + 1)).take x.2.2.2.2.toNat).length : Int) = x.2.2.2.2 := by
    rw [List.length_take, List.length_drop]
    omega
  refine ⟨fun j y hj hy => ?_, fun j y j2 z hjj hj hj2 hy hz hlt => ?_⟩
  · obtain ⟨g1, g2⟩ := hg j y hj
    have a1 := h.hold _ y g1 hy
    have a2 := h.nest i x (i + 1 + j) y (by omega) hi g1 hx hy (by omega)
    rw [hlen]
    exact ⟨a1.1, by omega⟩
  · obtain ⟨g1, g2⟩ := hg j y hj
    obtain ⟨g3, g4⟩ := hg j2 z hj2
    have := h.nest (i + 1 + j) y (i + 1 + j2) z (by omega) g1 g3 hy hz (by omega)
    omega
theorem Lam.drop {l : List OpP} (h : Lam l) (n : Nat) : Lam (l.drop n) := by
  have hg : ∀ (j : Nat) y, (l.drop n)[j]? = some y → l[n + j]? = some y := by
    intro j y hj
    rwa [List.getElem?_drop] at hj
  refine ⟨fun j y hj hy => ?_, fun j y j2 z hjj hj hj2 hy hz hlt => ?_⟩
  · have a1 := h.hold _ y (hg j y hj) hy
    have := (List.getElem?_eq_some_iff.1 (hg j y hj)).1
    rw [List.length_drop]
    exact ⟨a1.1, by omega⟩
  · have := h.nest (n + j) y (n + j2) z (by omega) (hg j y hj) (hg j2 z hj2) hy hz (by omega)
    omega
/-- Fuel beyond the length does not matter. -/
theorem steps_fuel : ∀ (k k2 : Nat) (l : List OpP), l.length ≤ k → l.length ≤ k2 → stepsG k l = stepsG k2 l
  | 0, 0, _, _, _ => rfl
  | 0, k2 + 1, l, h, _ => by
    obtain rfl : l = [] := List.eq_nil_of_length_eq_zero (by omega)
    rfl
  | k + 1, 0, l, _, h => by
    obtain rfl : l = [] := List.eq_nil_of_length_eq_zero (by omega)
    rfl
  | k + 1, k2 + 1, [], _, _ => rfl
  | k + 1, k2 + 1, x :: l, h1, h2 => by
    simp only [List.length_cons] at h1 h2
    have e1 := steps_fuel k k2 (l.take x.2.2.2.2.toNat) (by rw [List.length_take]; omega) (by rw [List.length_take]; omega)
    have e2 := steps_fuel k k2 (l.drop x.2.2.2.2.toNat) (by rw [List.length_drop]; omega) (by rw [List.length_drop]; omega)
    have e3 := steps_fuel k k2 l (by omega) (by omega)
    rw [stepsG, stepsG, e1, e2, e3]
def stepsL (l : List OpP) : Int := stepsG l.length l
theorem stepsL_cons (x : OpP) (l : List OpP) : stepsL (x :: l) = if x.1 = 14 then (1 + x.2.2.2.1 * (1 + min (stepsL (l.take x.2.2.2.2.toNat)) 10001)) + stepsL (l.drop x.2.2.2.2.toNat) else 1 + stepsL l := by
  unfold stepsL
  rw [List.length_cons, stepsG, steps_fuel l.length (l.take x.2.2.2.2.toNat).length (l.take x.2.2.2.2.toNat) (by rw [List.length_take]; omega) (Nat.le_refl _),
    steps_fuel l.length (l.drop x.2.2.2.2.toNat).length (l.drop x.2.2.2.2.toNat) (by rw [List.length_drop]; omega) (Nat.le_refl _)]
theorem stepsP_eq (l : List OpP) : stepsP l = min (stepsL l) 10001 := rfl
/-- How often loops go. -/
def Times (l : List OpP) : Prop := ∀ x ∈ l, x.1 = 14 → 0 ≤ x.2.2.2.1 ∧ x.2.2.2.1 ≤ 16
theorem Times.sub {l l' : List OpP} (h : Times l) (hs : ∀ x ∈ l', x ∈ l) : Times l' := fun x hx => h x (hs x hx)
theorem steps_nonneg : ∀ (k : Nat) (l : List OpP), Times l → 0 ≤ stepsG k l
  | 0, _, _ => Int.le_refl _
  | k + 1, [], _ => Int.le_refl _
  | k + 1, x :: l, h => by
    rw [stepsG]
    have h1 := steps_nonneg k (l.take x.2.2.2.2.toNat) (h.sub fun y hy => List.mem_cons_of_mem _ (List.mem_of_mem_take hy))
    have h2 := steps_nonneg k (l.drop x.2.2.2.2.toNat) (h.sub fun y hy => List.mem_cons_of_mem _ (List.mem_of_mem_drop hy))
    have h3 := steps_nonneg k l (h.sub fun y hy => List.mem_cons_of_mem _ hy)
    split
    · rename_i e
      have hc := h x (List.mem_cons_self ..) e
      have := Int.mul_nonneg hc.1 (show 0 ≤ 1 + min (stepsG k (l.take x.2.2.2.2.toNat)) 10001 by omega)
      omega
    · omega
theorem stepsL_nonneg {l : List OpP} (h : Times l) : 0 ≤ stepsL l := steps_nonneg _ l h
theorem loop_holds {x : OpP} (h : x.1 = 14) : holdsP x = true := by unfold holdsP; exact decide_eq_true (.inr h)
theorem ranged_times {x : OpP} (h : rangedP x = true) (e : x.1 = 14) : 0 ≤ x.2.2.2.1 ∧ x.2.2.2.1 ≤ 16 := by
  unfold rangedP at h
  rw [e] at h
  have h1 := List.all_eq_true.1 h 2 (by decide)
  unfold inX at h1
  have h2 := of_decide_eq_true h1
  simp [loP, hiP, fld, e] at h2
  exact h2
theorem check_ok {l : List OpP} (h : checkP l = 0) : l.length ≤ 64 ∧ l.all formedP = true ∧ l.all rangedP = true ∧ nestedP l = true := by
  unfold checkP at h
  split at h
  · cases h
  · split at h
    · rename_i h1 h2
      split at h
      · rename_i h3
        split at h
        · rename_i h4
          exact ⟨by omega, h2, h3, h4⟩
        · cases h
      · cases h
    · cases h
theorem check_lam {l : List OpP} (h : checkP l = 0) : Lam l ∧ Times l := by
  obtain ⟨_, _, h3, h4⟩ := check_ok h
  refine ⟨nested_lam h4 fun x hx hh => (ranged_hold (List.all_eq_true.1 h3 x hx) hh).1, fun x hx e => ranged_times (List.all_eq_true.1 h3 x hx) e⟩
end Pc
end Go.Proofs.YtgoegdlhbadlfaaDoor
