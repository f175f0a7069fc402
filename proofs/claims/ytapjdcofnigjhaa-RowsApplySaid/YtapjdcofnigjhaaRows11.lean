/- The walk of RowsApply. -/
import Derived.Test.YtapjdcofnigjhaaRows8
namespace Go.Proofs.Ytapjdcofnigjhaa
open Go.RowKit

/-- What is in the indexes: values, and whether they are there. -/
structure Idx where
  v : Nat → Int
  t : Nat → Bool
def Idx.upd (s : Idx) (x : Chg) : Idx := ⟨fun j => if j = x.1 then x.2.1 else s.v j, fun j => if j = x.1 then x.2.2 else s.t j⟩
def Idx.all (s : Idx) (L : List Chg) : Idx := L.foldl Idx.upd s
def Idx.fits (s : Idx) : List Chg → Prop
  | [] => True
  | x :: L => (x.1 < 4 ∧ s.t x.1 = (!x.2.2) ∧ (x.2.2 = false → x.2.1 = s.v x.1)) ∧ (s.upd x).fits L
theorem Idx.all_append (s : Idx) (L M : List Chg) : s.all (L ++ M) = (s.all L).all M := by simp [Idx.all]
theorem Idx.fits_append (s : Idx) (L M : List Chg) (h1 : s.fits L) (h2 : (s.all L).fits M) : s.fits (L ++ M) := by
  induction L generalizing s with
  | nil => exact h2
  | cons x L ih => exact ⟨h1.1, ih (s.upd x) h1.2 h2⟩
/-- .. behind the changes of the first columns. -/
structure Idx.Are (s : Idx) (k : Nat) (had : Bool) (f : Nat → Int) (has : Bool) (g : Nat → Int) : Prop where
  now : ∀ j, j < k → s.t j = has ∧ (has = true → s.v j = g j)
  old : ∀ j, k ≤ j → s.t j = had ∧ s.v j = f j
theorem Idx.col {s : Idx} {k : Nat} {had has : Bool} {f g : Nat → Int} (h : s.Are k had f has g) (hk : k < 4) :
    s.fits (chgAt k (optF had f) (optF has g)) ∧ (s.all (chgAt k (optF had f) (optF has g))).Are (k + 1) had f has g := by
  obtain ⟨ho1, ho2⟩ := h.old k (Nat.le_refl _)
  cases had <;> cases has
  · have e : chgAt k (optF false f) (optF false g) = [] := rfl
    rw [e]
    refine ⟨trivial, ⟨fun j hj => ?_, fun j hj => h.old j (by omega)⟩⟩
    by_cases hjk : j = k
    · subst hjk; exact ⟨ho1, fun h => by cases h⟩
    · exact h.now j (by omega)
  · have e : chgAt k (optF false f) (optF true g) = [(k, g k, true)] := rfl
    rw [e]
    refine ⟨⟨⟨hk, ho1, fun h => by cases h⟩, trivial⟩, ⟨fun j hj => ?_, fun j hj => ?_⟩⟩
    · by_cases hjk : j = k
      · subst hjk; simp [Idx.all, Idx.upd]
      · simpa [Idx.all, Idx.upd, hjk] using h.now j (by omega)
    · have : ¬ j = k := by omega
      simpa [Idx.all, Idx.upd, this] using h.old j (by omega)
  · have e : chgAt k (optF true f) (optF false g) = [(k, f k, false)] := rfl
    rw [e]
    refine ⟨⟨⟨hk, ho1, fun _ => ho2.symm⟩, trivial⟩, ⟨fun j hj => ?_, fun j hj => ?_⟩⟩
    · by_cases hjk : j = k
      · subst hjk; simp [Idx.all, Idx.upd]
      · simpa [Idx.all, Idx.upd, hjk] using h.now j (by omega)
    · have : ¬ j = k := by omega
      simpa [Idx.all, Idx.upd, this] using h.old j (by omega)
  · by_cases hfg : f k = g k
    · have e : chgAt k (optF true f) (optF true g) = [] := chgAt_yes (by simp [keepB, optF, hfg])
      rw [e]
      refine ⟨trivial, ⟨fun j hj => ?_, fun j hj => h.old j (by omega)⟩⟩
      by_cases hjk : j = k
      · subst hjk; exact ⟨ho1, fun _ => ho2.trans hfg⟩
      · exact h.now j (by omega)
    · have e : chgAt k (optF true f) (optF true g) = [(k, f k, false), (k, g k, true)] := (chgAt_no (by simp [keepB, optF, hfg])).trans rfl
      rw [e]
      refine ⟨⟨⟨hk, ho1, fun _ => ho2.symm⟩, ⟨⟨hk, by simp [Idx.upd], fun h => by cases h⟩, trivial⟩⟩, ⟨fun j hj => ?_, fun j hj => ?_⟩⟩
      · by_cases hjk : j = k
        · subst hjk; simp [Idx.all, Idx.upd]
        · simpa [Idx.all, Idx.upd, hjk] using h.now j (by omega)
      · have : ¬ j = k := by omega
        simpa [Idx.all, Idx.upd, this] using h.old j (by omega)
theorem Idx.cols {had has : Bool} {f g : Nat → Int} (k : Nat) (hk : k ≤ 4) : (Idx.mk f fun _ => had).fits (chgs k (optF had f) (optF has g)) ∧ ((Idx.mk f fun _ => had).all (chgs k (optF had f) (optF has g))).Are k had f has g := by
  induction k with
  | zero => exact ⟨trivial, ⟨fun j hj => by omega, fun j _ => ⟨rfl, rfl⟩⟩⟩
  | succ k ih =>
    obtain ⟨h1, h2⟩ := ih (by omega)
    obtain ⟨h3, h4⟩ := Idx.col h2 (by omega)
    rw [chgs_succ, Idx.all_append]
    exact ⟨Idx.fits_append _ _ _ h1 h3, h4⟩
/-- An index in two blocks. -/
structure IdxAt (w : World) (b1 b2 : Nat) (s : Idx) : Prop where
  v : ∀ j, j < 4 → w.cell? ⟨b1, j, none⟩ = some (.int .i64 (s.v j)) ∧ w.frozen? ⟨b1, j, none⟩ = false
  t : ∀ j, j < 4 → w.cell? ⟨b2, j, none⟩ = some (.bool (s.t j)) ∧ w.frozen? ⟨b2, j, none⟩ = false
theorem IdxAt.same {w w' : World} {b1 b2 : Nat} {s : Idx} (h : IdxAt w b1 b2 s) (hc : ∀ p, w'.cell? p = w.cell? p) (hf : ∀ p, w'.frozen? p = w.frozen? p) : IdxAt w' b1 b2 s :=
  ⟨fun j hj => ⟨(hc _).trans (h.v j hj).1, (hf _).trans (h.v j hj).2⟩, fun j hj => ⟨(hc _).trans (h.t j hj).1, (hf _).trans (h.t j hj).2⟩⟩
theorem IdxAt.set {w : World} {b1 b2 : Nat} {s : Idx} (h : IdxAt w b1 b2 s) (hne : b1 ≠ b2) (x : Chg) (hx : x.1 < 4) : IdxAt ((w.setCell ⟨b2, x.1, none⟩ (.bool x.2.2)).setCell ⟨b1, x.1, none⟩ (.int .i64 x.2.1)) b1 b2 (s.upd x) := by
  refine ⟨fun j hj => ⟨?_, by simpa using (h.v j hj).2⟩, fun j hj => ⟨?_, by simpa using (h.t j hj).2⟩⟩
  · by_cases e : j = x.1
    · subst e
      rw [World.cell?_setCell_same (u := .int .i64 (s.v x.1)) _ _ _ (by
        rw [World.cell?_setCell_other _ _ _ _ (by intro e; cases e; exact hne rfl)]; exact (h.v x.1 hx).1)]
      simp [Idx.upd]
    · rw [World.cell?_setCell_other _ _ _ _ (by intro e2; cases e2; exact e rfl), World.cell?_setCell_other _ _ _ _ (by intro e2; cases e2; exact hne rfl)]
      simpa [Idx.upd, e] using (h.v j hj).1
  · rw [World.cell?_setCell_other _ _ _ _ (by intro e2; cases e2; exact hne rfl)]
    by_cases e : j = x.1
    · subst e
      rw [World.cell?_setCell_same (u := .bool (s.t x.1)) _ _ _ (h.t x.1 hx).1]
      simp [Idx.upd]
    · rw [World.cell?_setCell_other _ _ _ _ (by intro e2; cases e2; exact e rfl)]
      simpa [Idx.upd, e] using (h.t j hj).1
theorem IdxAt.made (w : World) (a0 a1 a2 a3 : Int) (had : Bool) (t1 t2 : TypeId) :
    IdxAt ((w.alloc (.cells #[.int .i64 a0, .int .i64 a1, .int .i64 a2, .int .i64 a3] t1)).alloc (.cells #[.bool had, .bool had, .bool had, .bool had] t2)) w.heap.size (w.heap.size + 1) ⟨rowF a0 a1 a2 a3, fun _ => had⟩ := by
  refine ⟨fun j hj => ?_, fun j hj => ?_⟩
  · match j, hj with
    | 0, _ => simp [rowF]
    | 1, _ => simp [rowF]
    | 2, _ => simp [rowF]
    | 3, _ => simp [rowF]
  · match j, hj with
    | 0, _ => simp
    | 1, _ => simp
    | 2, _ => simp
    | 3, _ => simp
end Go.Proofs.Ytapjdcofnigjhaa
