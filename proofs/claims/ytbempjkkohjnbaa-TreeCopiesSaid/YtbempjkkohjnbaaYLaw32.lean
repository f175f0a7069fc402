/- Joined: Law32. -/
import Derived.Test.YtbempjkkohjnbaaYLaw31
/- CursorStays: what holds when a key is told. -/
namespace Go.Proofs.Ytbempjkkohjnbaa
open Go.RowKit Tr
open Ky (less)
theorem Try.infoS : (Try.prog.info? 9).map (fun i => (i.zero, i.size, i.bytes)) = some (some (.string ⟨#[]⟩), 1, 16) := by kernel_rfl
theorem str_leq (t : TypeId) (a b : List UInt8) (h : less b a = true) : binOp .leq t (.string ⟨a.toArray⟩) (.string ⟨b.toArray⟩) = pure (.bool false) := by
  have h1 : Op.bytesLess a b = false := Ky.less_asymm h
  have h2 : (a == b) = false := by rw [beq_eq_false_iff_ne]; rintro rfl; rw [Ky.less_self] at h; cases h
  simp [binOp, Op.stringOp, list_of, h1, h2]
theorem stays_tells {s t : Str} {m : List TOp} {was L2 : List Pr} {i : Nat} {L : List Pr} {a : Str} {td : List Str} {p : Pr} {rest : List Pr} (h : Stays s t m was i L a td) (hr : Tr.rng a t L2 = p :: rest) :
    inR s t p = true ∧ ∀ td' k, td = td' ++ [k] → less k p.1 = true := by
  have hp : p ∈ Tr.rng a t L2 := by rw [hr]; simp
  have h2 := (rng_mem.1 hp).2
  have h3 : less p.1 a = false := by
    unfold inR at h2
    cases e : less p.1 a with
    | false => rfl
    | true => rw [e] at h2; cases h2
  refine ⟨?_, fun td' k e => ?_⟩
  · unfold inR at h2 ⊢
    rw [h3] at h2
    have h4 : less p.1 s = false := by
      cases e : less p.1 s with
      | false => rfl
      | true =>
        have h6 := h.low
        rcases Ky.less_trich p.1 a with e1 | e1 | e1
        · rw [← e1, e] at h6; cases h6
        · rw [e1] at h3; cases h3
        · rw [Tr.less_trans e1 e] at h6; cases h6
    rw [h4]
    exact h2
  · rcases h.rise with e1 | ⟨td2, k2, e1, e2⟩
    · rw [e1] at e; simp at e
    · rw [e1] at e
      obtain ⟨_, e3⟩ := List.append_inj' e rfl
      obtain rfl : k2 = k := by simpa using e3
      rw [e2, less_nul] at h3
      rcases Ky.less_trich p.1 k2 with e1 | e1 | e1
      · rw [e1] at h3; simp at h3
      · rw [e1] at h3; simp at h3
      · exact e1
theorem rotT {A C T D E : Rs} : [A, C, T, D, E].Perm [T, A, C, D, E] := ((List.Perm.swap T C [D, E]).cons A).trans (.swap T A [C, D, E])
theorem rng_rest {a t : Str} {L : List Pr} {p : Pr} {rest : List Pr} (hs : Sorted L) (hr : Tr.rng a t L = p :: rest) : Tr.rng (p.1 ++ [0]) t L = rest := by
  rcases rng_step (s := a) (t := t) hs with ⟨_, h2⟩ | ⟨q, _, _, h3⟩
  · rw [h2] at hr; cases hr
  · rw [h3] at hr; cases hr; rfl
theorem permJ {S C T R W : Rs} : [S, C, T, R, W].Perm [T, R, S, C, W] := (List.perm_append_comm (l₁ := [S, C]) (l₂ := [T, R])).append_right [W]
theorem permJ2 {S C T R W : Rs} : [T, R, S, C, W].Perm [C, S, T, R, W] := permJ.symm.trans (.swap _ _ _)
theorem sorted_stepL {L : List Pr} (ask : Int) (key v : Str) (h : Sorted L) : Sorted (stepL ask key v L) := by
  unfold stepL
  split
  · unfold putL
    split
    · exact h.ins _
    · exact h
  · split
    · unfold delL
      split
      · exact h.del _
      · exact h
    · exact h
/-- A call, and nothing is told behind it. -/
theorem stays_skip {s t : Str} {m : List TOp} {was L2 : List Pr} {i : Nat} {L : List Pr} {a : Str} {td : List Str} (h : Stays s t m was i L a td)
    (hk : ∀ p ∈ was, Free m (i + 1) p.1 → Kept1 s t a L2 td p.1) (ho : OkL L2) (hl : L2.length ≤ 200 + min (i + 1) m.length) (hi : i < m.length) (hr : Tr.rng a t L2 = []) : Stays s t m was (i + 1) L2 a td := by
  refine ⟨h.low, h.rise, hk, ho, hl, fun hmi => ?_, by have := h.many; omega⟩
  rw [hr]
  simp
  omega
end Go.Proofs.Ytbempjkkohjnbaa
