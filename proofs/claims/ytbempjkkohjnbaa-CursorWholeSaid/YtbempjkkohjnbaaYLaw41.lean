/- Joined: Law41. -/
import Derived.Test.YtbempjkkohjnbaaYLaw32
import Derived.Test.YtbempjkkohjnbaaYLaw27
import Derived.Test.YtbempjkkohjnbaaYIter3
/- CursorWhole, the plain law: two ranges that meet; what of a range has come. -/
namespace Go.Proofs.Ytbempjkkohjnbaa
open Go.RowKit Tr
open Ky (less)
theorem rng_meet {s m t : Str} {L : List Pr} (hL : Sorted L) (hm : m ≠ []) (h1 : less m s = false) (h2 : t = [] ∨ less t m = false) : Tr.rng s t L = Tr.rng s m L ++ Tr.rng m t L := by
  induction L with
  | nil => rfl
  | cons p L ih =>
    have hL' := List.pairwise_cons.1 hL
    have ih := ih hL'.2
    cases hpm : less p.1 m with
    | true =>
      have e1 : inR m t p = false := by unfold inR; rw [hpm]; rfl
      have e2 : inR s m p = inR s t p := by
        unfold inR
        rw [hpm]
        have : (decide (t = []) || less p.1 t) = true := by
          rcases h2 with h2 | h2
          · simp [h2]
          · rcases Ky.less_trich m t with e | e | e
            · rw [← e, hpm]; simp
            · rw [Tr.less_trans hpm e]; simp
            · rw [h2] at e; cases e
        rw [this]
        simp
      unfold Tr.rng at ih ⊢
      rw [List.filter_cons, List.filter_cons, List.filter_cons, e1, e2, ih]
      cases inR s t p <;> simp
    | false =>
      have hb : ∀ q ∈ p :: L, less q.1 m = false := by
        intro q hq
        rcases List.mem_cons.1 hq with rfl | hq
        · exact hpm
        · cases e : less q.1 m with
          | false => rfl
          | true => rw [Tr.less_trans (hL'.1 q hq) e] at hpm; cases hpm
      have e1 : Tr.rng s m (p :: L) = [] := by
        unfold Tr.rng
        rw [List.filter_eq_nil_iff]
        intro q hq
        simp [inR, hb q hq, hm]
      rw [e1, List.nil_append]
      unfold Tr.rng
      refine List.filter_congr (fun q hq => ?_)
      unfold inR
      rw [hb q hq]
      have : less q.1 s = false := by
        cases e : less q.1 s with
        | false => rfl
        | true =>
          have h3 := hb q hq
          rcases Ky.less_trich s m with e2 | e2 | e2
          · rw [← e2, e] at h3; cases h3
          · rw [Tr.less_trans e e2] at h3; cases h3
          · rw [h1] at e2; cases e2
      rw [this]
theorem rng_snoc {s t : Str} (L : List Pr) (p : Pr) : Tr.rng s t (L ++ [p]) = Tr.rng s t L ++ if inR s t p then [p] else [] := by
  rw [rng_append]
  congr 1
  unfold Tr.rng
  cases h : inR s t p <;> simp [h]
theorem rng_of {s t : Str} {L R : List Pr} (hR : Tr.rng s t L = R) : ∀ p ∈ R, less p.1 s = false ∧ (t = [] ∨ less p.1 t = true) := by
  intro p hp
  rw [← hR] at hp
  have := (rng_mem.1 hp).2
  unfold inR at this
  cases e : less p.1 s with
  | true => rw [e] at this; cases this
  | false =>
    rw [e] at this
    simp at this
    exact ⟨rfl, this⟩
theorem sorted_next {R : List Pr} (h : Sorted R) {j : Nat} {p q : Pr} (hp : R[j]? = some p) (hq : R[j + 1]? = some q) : less p.1 q.1 = true := by
  obtain ⟨h1, rfl⟩ := List.getElem?_eq_some_iff.1 hp
  obtain ⟨h2, rfl⟩ := List.getElem?_eq_some_iff.1 hq
  exact (List.pairwise_iff_getElem.1 h) j (j + 1) h1 h2 (by omega)
theorem append_at {α : Type} {A B R : List α} (h : R = A ++ B) {j : Nat} {p : α} (hp : R[j]? = some p) : (j < A.length → A[j]? = some p) ∧ (¬ j < A.length → B[j - A.length]? = some p) := by
  subst h
  refine ⟨fun hj => ?_, fun hj => ?_⟩
  · rwa [List.getElem?_append_left hj] at hp
  · rwa [List.getElem?_append_right (by omega)] at hp
end Go.Proofs.Ytbempjkkohjnbaa
