/- Joined: Tr11. -/
import Derived.Test.YtbempjkkohjnbaaYTr
/- A key that is put, and then taken out again. Plain: no program in sight. -/
namespace Go.Proofs.Ytbempjkkohjnbaa
namespace Tr
open Ky (less)
theorem get_ins (k v : Str) (L : List Pr) : get k (ins (k, v) L) = some v := by
  induction L with
  | nil => simp [ins, get, less_irr]
  | cons q L ih =>
    rw [ins]
    by_cases h : less q.1 k = true
    · rw [if_pos h, get, if_pos h]; exact ih
    · rw [if_neg h]
      by_cases e : q.1 = k
      · rw [if_pos e]; simp [get, less_irr]
      · rw [if_neg e]; simp [get, less_irr]
theorem ceil_ins (k v : Str) (L : List Pr) : ceil k (ins (k, v) L) = some (k, v) := by
  induction L with
  | nil => simp [ins, ceil, less_irr]
  | cons q L ih =>
    rw [ins]
    by_cases h : less q.1 k = true
    · rw [if_pos h, ceil, if_pos h]; exact ih
    · rw [if_neg h]
      by_cases e : q.1 = k
      · rw [if_pos e]; simp [ceil, less_irr]
      · rw [if_neg e]; simp [ceil, less_irr]
theorem get_abv {k : Str} {L : List Pr} (h : Abv L k) : get k L = none := by
  cases L with
  | nil => rfl
  | cons q L => obtain ⟨h1, h2⟩ := h.head; rw [get, if_neg h1, if_neg h2]
theorem ins_abv {k v : Str} {L : List Pr} (h : Abv L k) : ins (k, v) L = (k, v) :: L := by
  cases L with
  | nil => rfl
  | cons q L => obtain ⟨h1, h2⟩ := h.head; rw [ins, if_neg h1, if_neg h2]
theorem get_del {L : List Pr} (hs : Sorted L) (k : Str) : get k (del k L) = none := by
  induction L with
  | nil => rfl
  | cons q L ih =>
    have hs' := List.pairwise_cons.1 hs
    rw [del]
    by_cases h : less q.1 k = true
    · rw [if_pos h, get, if_pos h]; exact ih hs'.2
    · rw [if_neg h]
      by_cases e : q.1 = k
      · rw [if_pos e]; exact get_abv (fun p hp => by rw [← e]; exact hs'.1 p hp)
      · rw [if_neg e, get, if_neg h, if_neg e]
theorem del_ins_none {k v : Str} {L : List Pr} (hg : get k L = none) : del k (ins (k, v) L) = L := by
  induction L with
  | nil => simp [ins, del, less_irr]
  | cons q L ih =>
    rw [get] at hg
    rw [ins]
    by_cases h : less q.1 k = true
    · rw [if_pos h] at hg
      rw [if_pos h, del, if_pos h, ih hg]
    · rw [if_neg h] at hg
      by_cases e : q.1 = k
      · rw [if_pos e] at hg; cases hg
      · rw [if_neg h, if_neg e]; simp [del, less_irr]
theorem ins_del_ins {k v u : Str} {L : List Pr} (hs : Sorted L) (hg : get k L = some u) : ins (k, u) (del k (ins (k, v) L)) = L := by
  induction L with
  | nil => cases hg
  | cons q L ih =>
    have hs' := List.pairwise_cons.1 hs
    rw [get] at hg
    rw [ins]
    by_cases h : less q.1 k = true
    · rw [if_pos h] at hg
      rw [if_pos h, del, if_pos h, ins, if_pos h, ih hs'.2 hg]
    · rw [if_neg h] at hg
      by_cases e : q.1 = k
      · rw [if_pos e] at hg
        cases hg
        rw [if_neg h, if_pos e]
        have hd : del k ((k, v) :: L) = L := by simp [del, less_irr]
        rw [hd, ins_abv (fun p hp => by rw [← e]; exact hs'.1 p hp)]
        rw [← e]
      · rw [if_neg e] at hg; cases hg
theorem get_mem {k v : Str} {L : List Pr} (h : get k L = some v) : (k, v) ∈ L := by
  induction L with
  | nil => cases h
  | cons q L ih =>
    rw [get] at h
    by_cases h1 : less q.1 k = true
    · rw [if_pos h1] at h; exact List.mem_cons_of_mem _ (ih h)
    · rw [if_neg h1] at h
      by_cases e : q.1 = k
      · rw [if_pos e] at h; cases h; rw [← e]; simp
      · rw [if_neg e] at h; cases h
end Tr
end Go.Proofs.Ytbempjkkohjnbaa
