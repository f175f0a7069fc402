/- Joined: Law28. -/
import Derived.Test.YtbempjkkohjnbaaYLaw26
/- CursorStays, the plain law: what a cursor tells while the tree turns. No program in sight. -/
namespace Go.Proofs.Ytbempjkkohjnbaa
open Tr
open Ky (less)
theorem ins_keeps {x p : Pr} {L : List Pr} (h : p ∈ L) : ∃ q ∈ ins x L, q.1 = p.1 := by
  induction L with
  | nil => cases h
  | cons y L ih =>
    unfold ins
    split
    · rcases List.mem_cons.1 h with rfl | h
      · exact ⟨_, List.mem_cons_self .., rfl⟩
      · obtain ⟨q, hq, e⟩ := ih h
        exact ⟨q, List.mem_cons_of_mem _ hq, e⟩
    · split
      next he =>
        rcases List.mem_cons.1 h with rfl | h
        · exact ⟨x, List.mem_cons_self .., he.symm⟩
        · exact ⟨p, List.mem_cons_of_mem _ h, rfl⟩
      next => exact ⟨p, List.mem_cons_of_mem _ h, rfl⟩
theorem del_keeps {k : Str} {p : Pr} {L : List Pr} (h : p ∈ L) (hk : k ≠ p.1) : p ∈ del k L := by
  induction L with
  | nil => cases h
  | cons y L ih =>
    unfold del
    split
    · rcases List.mem_cons.1 h with rfl | h
      · exact List.mem_cons_self ..
      · exact List.mem_cons_of_mem _ (ih h)
    · split
      next he =>
        rcases List.mem_cons.1 h with rfl | h
        · exact absurd he.symm hk
        · exact h
      next => exact h
theorem step_keeps {ask : Int} {key v : Str} {p : Pr} {L : List Pr} (h : p ∈ L) (hk : ¬ (key = p.1 ∧ ask = 1)) : ∃ q ∈ stepL ask key v L, q.1 = p.1 := by
  unfold stepL
  split
  · unfold putL
    split
    · exact ins_keeps h
    · exact ⟨p, h, rfl⟩
  · split
    next h1 =>
      unfold delL
      split
      · exact ⟨p, del_keeps h (fun e => hk ⟨e, h1⟩), rfl⟩
      · exact ⟨p, h, rfl⟩
    next => exact ⟨p, h, rfl⟩
/-- A key that is there all the time is told, once the cursor is behind it. -/
def Kept1 (s t a : Str) (L : List Pr) (td : List Str) (k : Str) : Prop := (∃ q ∈ L, q.1 = k) ∧ (less k a = true → k ∈ td)
theorem kept1_start {s t : Str} {L : List Pr} {p : Pr} (h : p ∈ Tr.rng s t L) : Kept1 s t s L [] p.1 := by
  obtain ⟨h1, h2⟩ := rng_mem.1 h
  refine ⟨⟨p, h1, rfl⟩, fun e => ?_⟩
  unfold inR at h2
  rw [e] at h2
  cases h2
theorem kept1_step {s t a k : Str} {L : List Pr} {td : List Str} {ask : Int} {key v : Str} (h : Kept1 s t a L td k) (hk : ¬ (key = k ∧ ask = 1)) : Kept1 s t a (stepL ask key v L) td k := by
  obtain ⟨⟨q, hq, rfl⟩, h2⟩ := h
  exact ⟨step_keeps hq hk, h2⟩
theorem kept1_next {s t a k : Str} {L : List Pr} {td : List Str} {p : Pr} {rest : List Pr} (hs : Sorted L) (h : Kept1 s t a L td k) (ht : t = [] ∨ less k t = true) (hr : Tr.rng a t L = p :: rest) : Kept1 s t (p.1 ++ [0]) L (td ++ [p.1]) k := by
  obtain ⟨⟨q, hq, rfl⟩, h2⟩ := h
  refine ⟨⟨q, hq, rfl⟩, fun e => ?_⟩
  rw [less_nul] at e
  by_cases he : q.1 = p.1
  · rw [he]; simp
  · have e2 : less q.1 p.1 = true := by
      rcases Bool.or_eq_true .. |>.mp e with h | h
      · exact h
      · exact absurd (by simpa using h) he
    refine List.mem_append_left _ (h2 ?_)
    cases h3 : less q.1 a with
    | true => rfl
    | false =>
      have hm : q ∈ Tr.rng a t L := rng_mem.2 ⟨hq, by
        unfold inR
        rw [h3]
        rcases ht with rfl | ht
        · rfl
        · rw [ht]; simp⟩
      have hso := rng_sorted (s := a) (t := t) hs
      rw [hr] at hm hso
      rcases List.mem_cons.1 hm with rfl | hm
      · exact absurd rfl he
      · have := (List.pairwise_cons.1 hso).1 q hm
        rw [Ky.less_asymm this] at e2
        cases e2
theorem kept1_end {s t a k : Str} {L : List Pr} {td : List Str} (h : Kept1 s t a L td k) (ht : t = [] ∨ less k t = true) (hr : Tr.rng a t L = []) : k ∈ td := by
  obtain ⟨⟨q, hq, rfl⟩, h2⟩ := h
  refine h2 ?_
  cases h3 : less q.1 a with
  | true => rfl
  | false =>
    have hm : q ∈ Tr.rng a t L := rng_mem.2 ⟨hq, by
      unfold inR
      rw [h3]
      rcases ht with rfl | ht
      · rfl
      · rw [ht]; simp⟩
    rw [hr] at hm
    cases hm
end Go.Proofs.Ytbempjkkohjnbaa
