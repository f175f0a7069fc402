/- Joined: Law31. -/
import Derived.Test.YtbempjkkohjnbaaYLaw29
/- CursorStays, the plain law: the state of its first loop. -/
namespace Go.Proofs.Ytbempjkkohjnbaa
open Go.RowKit Tr
open Ky (less)
def strsV (l : List Str) : List Value := l.map fun s => .string ⟨s.toArray⟩
theorem strsV_length (l : List Str) : (strsV l).length = l.length := List.length_map ..
theorem strsV_get {l : List Str} {j : Nat} {s : Str} (h : l[j]? = some s) : (strsV l)[j]? = some (.string ⟨s.toArray⟩) := by
  unfold strsV
  rw [List.getElem?_map, h]
  rfl
theorem strs_at {w : World} {a : Option Addr} {n c : Nat} {l : List Str} (h : Rd w 1 a n c (strsV l)) {j : Nat} {s : Str} (hj : l[j]? = some s) :
    ∃ b o, a = some ⟨b, o, none⟩ ∧ w.cell? ⟨b, o + j, none⟩ = some (.string ⟨s.toArray⟩) := by
  have h0 := strsV_get hj
  obtain ⟨b, o, e, hc⟩ := h.addr (by intro hn; rw [hn] at h0; simp at h0)
  exact ⟨b, o, e, hc _ _ h0⟩
/-- No Delete of a key so far. -/
def Free (m : List TOp) (i : Nat) (k : Str) : Prop := ∀ x ∈ m.take i, ¬ (x.2.1 = k ∧ x.1 = 1)
structure Stays (s t : Str) (m : List TOp) (was : List Pr) (i : Nat) (L : List Pr) (a : Str) (td : List Str) : Prop where
  low : less a s = false
  rise : td = [] ∨ ∃ td' k, td = td' ++ [k] ∧ a = k ++ [0]
  kept : ∀ p ∈ was, Free m i p.1 → Kept1 s t a L td p.1
  ok : OkL L
  len : L.length ≤ 200 + min i m.length
  run : m.length ≤ i → (Tr.rng a t L).length + (i - m.length) ≤ 300
  many : td.length ≤ i
theorem stays_start {s t : Str} {m : List TOp} {L : List Pr} (h : OkL L) (hl : L.length ≤ 200) : Stays s t m (Tr.rng s t L) 0 L s [] := by
  refine ⟨Ky.less_self s, .inl rfl, fun p hp _ => kept1_start hp, h, by omega, fun hm => ?_, Nat.le_refl _⟩
  have := rng_len s t L
  omega
/-- A call, ahead of the cursor's. -/
theorem stays_does {s t : Str} {m : List TOp} {was : List Pr} {i : Nat} {L : List Pr} {a : Str} {td : List Str} (h : Stays s t m was i L a td) {ask : Int} {key v : Str} (hx : m[i]? = some (ask, key, v)) :
    (∀ p ∈ was, Free m (i + 1) p.1 → Kept1 s t a (stepL ask key v L) td p.1) ∧ OkL (stepL ask key v L) ∧ (stepL ask key v L).length ≤ 200 + min (i + 1) m.length := by
  have hi := (List.getElem?_eq_some_iff.1 hx).1
  have e : m.take (i + 1) = m.take i ++ [(ask, key, v)] := by rw [List.take_add_one, hx]; rfl
  refine ⟨fun p hp hf => ?_, okL_step h.ok _ _ _, ?_⟩
  · have h1 : Free m i p.1 := fun x hx => hf x (by rw [e]; exact List.mem_append_left _ hx)
    exact kept1_step (h.kept p hp h1) (hf (ask, key, v) (by rw [e]; simp))
  · have := stepL_len ask key v L
    have := h.len
    omega
/-- The cursor's step, behind the call. -/
theorem stays_next {s t : Str} {m : List TOp} {was L2 : List Pr} {i : Nat} {L : List Pr} {a : Str} {td : List Str} {p : Pr} {rest : List Pr} (h : Stays s t m was i L a td)
    (hw : ∀ p ∈ was, t = [] ∨ less p.1 t = true) (hs : Sorted L2) (hk : ∀ p ∈ was, Free m (i + 1) p.1 → Kept1 s t a L2 td p.1) (ho : OkL L2) (hl : L2.length ≤ 200 + min (i + 1) m.length)
    (he : m.length ≤ i → L2 = L) (hm : m.length ≤ 100) (hr : Tr.rng a t L2 = p :: rest) (hr2 : Tr.rng (p.1 ++ [0]) t L2 = rest) : Stays s t m was (i + 1) L2 (p.1 ++ [0]) (td ++ [p.1]) := by
  have hp : p ∈ Tr.rng a t L2 := by rw [hr]; simp
  have h2 := (rng_mem.1 hp).2
  have h3 : less p.1 a = false := by
    unfold inR at h2
    cases e : less p.1 a with
    | false => rfl
    | true => rw [e] at h2; cases h2
  refine ⟨?_, .inr ⟨td, p.1, rfl, rfl⟩, fun q hq hf => kept1_next hs (hk q hq hf) (hw q hq) hr, ho, hl, fun hmi => ?_, by have := h.many; simp; omega⟩
  · cases e : less (p.1 ++ [0]) s with
    | false => rfl
    | true =>
      have h4 : less p.1 (p.1 ++ [0]) = true := by rw [less_nul]; simp
      have h5 := Tr.less_trans h4 e
      have h6 := h.low
      rcases Ky.less_trich p.1 a with e1 | e1 | e1
      · rw [← e1, h5] at h6; cases h6
      · rw [e1] at h3; cases h3
      · rw [Tr.less_trans e1 h5] at h6; cases h6
  · rw [hr2]
    by_cases hmi2 : m.length ≤ i
    · have h7 := h.run hmi2
      have e := he hmi2
      rw [← e, hr] at h7
      simp at h7
      omega
    · have h8 := rng_len a t L2
      rw [hr] at h8
      simp at h8
      omega
end Go.Proofs.Ytbempjkkohjnbaa
