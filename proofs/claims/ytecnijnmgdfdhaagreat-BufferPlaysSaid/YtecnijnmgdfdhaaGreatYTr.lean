/- Joined: Tr1, Tr2, Tr3, Tr4, Tr5, Tr6, Tr7, Tr8, Tr10, Tr11, Tr12. -/
import Derived.Test.YtecnijnmgdfdhaaGreatYKit
namespace Go.Proofs.YtecnijnmgdfdhaaGreat
namespace Tr
abbrev Str := List UInt8
abbrev Pr := Str × Str
open Ky (less)
theorem less_trans {a b c : Str} (h1 : less a b = true) (h2 : less b c = true) : less a c = true := by
 induction a generalizing b c with
 | nil =>
  match b, c, h1, h2 with
  | _ :: _, _ :: _, _, _ => rfl
 | cons x a ih =>
  match b, c, h1, h2 with
  | y :: b, z :: c, h1, h2 =>
   simp only [Ky.less, Go.Op.bytesLess, Bool.or_eq_true, decide_eq_true_eq, Bool.and_eq_true, beq_iff_eq, UInt8.lt_iff_toNat_lt] at h1 h2 ⊢
   rcases h1 with h1 | ⟨rfl, h1⟩
   ·rcases h2 with h2 | ⟨rfl, h2⟩
    ·exact .inl (by omega)
    ·exact .inl h1
   ·rcases h2 with h2 | ⟨rfl, h2⟩
    ·exact .inl h2
    ·exact .inr ⟨rfl, ih h1 h2⟩
theorem less_irr (a : Str) : less a a = false := Ky.less_self a
theorem less_asymm {a b : Str} (h : less a b = true) : less b a = false := Ky.less_asymm h
theorem less_ne {a b : Str} (h : less a b = true) : a ≠ b := by rintro rfl; rw [less_irr] at h; cases h
theorem less_of {a b : Str} (h1 : less a b = false) (h2 : a ≠ b) : less b a = true := by
 rcases Ky.less_trich a b with h | h | h
 ·exact absurd h h2
 ·rw [h1] at h; cases h
 ·exact h
def pl (k : Str) : List Pr → Nat
 | [] => 0
 | p :: L => if less p.1 k = true then pl k L + 1 else 0
def ins (x : Pr) : List Pr → List Pr
 | [] => [x]
 | q :: L => if less q.1 x.1 = true then q :: ins x L else if q.1 = x.1 then x :: L else x :: q :: L
def del (k : Str) : List Pr → List Pr
 | [] => []
 | q :: L => if less q.1 k = true then q :: del k L else if q.1 = k then L else q :: L
def ceil (k : Str) : List Pr → Option Pr
 | [] => none
 | q :: L => if less q.1 k = true then ceil k L else some q
def get (k : Str) : List Pr → Option Str
 | [] => none
 | q :: L => if less q.1 k = true then get k L else if q.1 = k then some q.2 else none
theorem get_ceil (k : Str) (L : List Pr) : get k L = match ceil k L with | some q => if q.1 = k then some q.2 else none | none => none := by
 induction L with
 | nil => rfl
 | cons q L ih =>
  rw [get, ceil]
  by_cases h : less q.1 k = true
  ·rw [if_pos h, if_pos h]; exact ih
  ·rw [if_neg h, if_neg h]
def Bel (L : List Pr) (k : Str) : Prop := ∀ p ∈ L, less p.1 k = true
def Abv (L : List Pr) (k : Str) : Prop := ∀ p ∈ L, less k p.1 = true
theorem Bel.nil (k : Str) : Bel [] k := fun _ h => by cases h
theorem Abv.nil (k : Str) : Abv [] k := fun _ h => by cases h
theorem Bel.append {A B : List Pr} {k : Str} (h1 : Bel A k) (h2 : Bel B k) : Bel (A ++ B) k := fun p hp => (List.mem_append.1 hp).elim (h1 p) (h2 p)
theorem Abv.append {A B : List Pr} {k : Str} (h1 : Abv A k) (h2 : Abv B k) : Abv (A ++ B) k := fun p hp => (List.mem_append.1 hp).elim (h1 p) (h2 p)
theorem Abv.head {p : Pr} {L : List Pr} {k : Str} (h : Abv (p :: L) k) : ¬ less p.1 k = true ∧ p.1 ≠ k := by
 have := h p (by simp)
 exact ⟨by rw [less_asymm this]; decide, (less_ne this).symm⟩
theorem pl_left {A : List Pr} {k : Str} (h : Bel A k) (B : List Pr) : pl k (A ++ B) = A.length + pl k B := by
 induction A with
 | nil => simp
 | cons q A ih =>
  rw [List.cons_append, pl, if_pos (h q (by simp)), ih (fun p hp => h p (by simp [hp])), List.length_cons]; omega
theorem ins_left {A : List Pr} {x : Pr} (h : Bel A x.1) (B : List Pr) : ins x (A ++ B) = A ++ ins x B := by
 induction A with
 | nil => rfl
 | cons q A ih => rw [List.cons_append, ins, if_pos (h q (by simp)), ih (fun p hp => h p (by simp [hp]))]; rfl
theorem ins_right {B : List Pr} {x : Pr} (h : Abv B x.1) (A : List Pr) : ins x (A ++ B) = ins x A ++ B := by
 induction A with
 | nil =>
  cases B with
  | nil => rfl
  | cons q B =>
   obtain ⟨h1, h2⟩ := h.head
   show ins x (q :: B) = x :: q :: B
   rw [ins, if_neg h1, if_neg h2]
 | cons q A ih =>
  rw [List.cons_append, ins, ins, ih]
  by_cases h1 : less q.1 x.1 = true
  ·rw [if_pos h1, if_pos h1]; rfl
  ·by_cases h2 : q.1 = x.1
   ·rw [if_neg h1, if_neg h1, if_pos h2, if_pos h2]; rfl
   ·rw [if_neg h1, if_neg h1, if_neg h2, if_neg h2]; rfl
theorem del_left {A : List Pr} {k : Str} (h : Bel A k) (B : List Pr) : del k (A ++ B) = A ++ del k B := by
 induction A with
 | nil => rfl
 | cons q A ih => rw [List.cons_append, del, if_pos (h q (by simp)), ih (fun p hp => h p (by simp [hp]))]; rfl
theorem del_right {B : List Pr} {k : Str} (h : Abv B k) (A : List Pr) : del k (A ++ B) = del k A ++ B := by
 induction A with
 | nil =>
  cases B with
  | nil => rfl
  | cons q B =>
   obtain ⟨h1, h2⟩ := h.head
   show del k (q :: B) = q :: B
   rw [del, if_neg h1, if_neg h2]
 | cons q A ih =>
  rw [List.cons_append, del, del, ih]
  by_cases h1 : less q.1 k = true
  ·rw [if_pos h1, if_pos h1]; rfl
  ·by_cases h2 : q.1 = k
   ·rw [if_neg h1, if_neg h1, if_pos h2, if_pos h2]
   ·rw [if_neg h1, if_neg h1, if_neg h2, if_neg h2]; rfl
theorem get_left {A : List Pr} {k : Str} (h : Bel A k) (B : List Pr) : get k (A ++ B) = get k B := by
 induction A with
 | nil => rfl
 | cons q A ih => rw [List.cons_append, get, if_pos (h q (by simp)), ih (fun p hp => h p (by simp [hp]))]
theorem get_right {B : List Pr} {k : Str} (h : Abv B k) (A : List Pr) : get k (A ++ B) = get k A := by
 induction A with
 | nil =>
  cases B with
  | nil => rfl
  | cons q B =>
   obtain ⟨h1, h2⟩ := h.head
   show get k (q :: B) = none
   rw [get, if_neg h1, if_neg h2]
 | cons q A ih =>
  rw [List.cons_append, get, get, ih]
theorem ceil_append (k : Str) (A B : List Pr) : ceil k (A ++ B) = (ceil k A).or (ceil k B) := by
 induction A with
 | nil => rfl
 | cons q A ih =>
  rw [List.cons_append, ceil, ceil, ih]
  by_cases h : less q.1 k = true
  ·rw [if_pos h, if_pos h]
  ·rw [if_neg h, if_neg h]; rfl
theorem ceil_bel {A : List Pr} {k : Str} (h : Bel A k) : ceil k A = none := by
 induction A with
 | nil => rfl
 | cons q A ih => rw [ceil, if_pos (h q (by simp)), ih (fun p hp => h p (by simp [hp]))]
theorem ceil_left {A : List Pr} {k : Str} (h : Bel A k) (B : List Pr) : ceil k (A ++ B) = ceil k B := by rw [ceil_append, ceil_bel h]; rfl
theorem ceil_abv {B : List Pr} {k : Str} (h : Abv B k) : ceil k B = B.head? := by
 cases B with
 | nil => rfl
 | cons q B => rw [ceil, if_neg h.head.1]; rfl
def Sorted (L : List Pr) : Prop := L.Pairwise fun p q => less p.1 q.1 = true
theorem Sorted.nil : Sorted [] := List.Pairwise.nil
theorem Sorted.left {A B : List Pr} (h : Sorted (A ++ B)) : Sorted A := (List.pairwise_append.1 h).1
theorem Sorted.right {A B : List Pr} (h : Sorted (A ++ B)) : Sorted B := (List.pairwise_append.1 h).2.1
theorem Sorted.lt {A B : List Pr} (h : Sorted (A ++ B)) {p q : Pr} (hp : p ∈ A) (hq : q ∈ B) : less p.1 q.1 = true := (List.pairwise_append.1 h).2.2 p hp q hq
theorem Sorted.bel {A B : List Pr} {q : Pr} (h : Sorted (A ++ q :: B)) : Bel A q.1 := fun _ hp => h.lt hp (by simp)
theorem Sorted.abv {A B : List Pr} {q : Pr} (h : Sorted (A ++ q :: B)) : Abv B q.1 := fun _ hp => (List.pairwise_cons.1 h.right).1 _ hp
theorem Sorted.bel_of {A : List Pr} {q : Pr} (h : Sorted (A ++ [q])) {k : Str} (hk : less q.1 k = true) : Bel (A ++ [q]) k := by
 refine Bel.append (fun p hp => less_trans (h.bel p hp) hk) (fun p hp => ?_)
 rw [List.mem_singleton] at hp; subst hp; exact hk
theorem Sorted.abv_of {B : List Pr} {q : Pr} (h : Sorted (q :: B)) {k : Str} (hk : less k q.1 = true) : Abv (q :: B) k := fun p hp => by
 rcases List.mem_cons.1 hp with rfl | hp
 ·exact hk
 ·exact less_trans hk ((List.pairwise_cons.1 h).1 p hp)
theorem split_at (k : Str) (L : List Pr) (h : Sorted L) : ∃ A B, L = A ++ B ∧ A.length = pl k L ∧ Bel A k ∧ ((∃ v B', B = (k, v) :: B' ∧ Abv B' k) ∨ Abv B k) := by
 induction L with
 | nil => exact ⟨[], [], rfl, rfl, Bel.nil k, .inr (Abv.nil k)⟩
 | cons q L ih =>
  by_cases h1 : less q.1 k = true
  ·obtain ⟨A, B, rfl, h2, h3, h4⟩ := ih (List.pairwise_cons.1 h).2
   refine ⟨q :: A, B, rfl, by rw [pl, if_pos h1, List.length_cons, h2], fun p hp => ?_, h4⟩
   rcases List.mem_cons.1 hp with rfl | hp
   ·exact h1
   ·exact h3 p hp
  ·refine ⟨[], q :: L, rfl, by rw [pl, if_neg h1]; rfl, Bel.nil k, ?_⟩
   by_cases h2 : q.1 = k
   ·obtain ⟨a, v⟩ := q
    cases h2
    exact .inl ⟨v, L, rfl, fun p hp => (List.pairwise_cons.1 h).1 p hp⟩
   ·exact .inr (h.abv_of (less_of (by simpa using h1) h2))
theorem ins_mem {x : Pr} {L : List Pr} {p : Pr} (h : p ∈ ins x L) : p = x ∨ p ∈ L := by
 induction L with
 | nil => left; simpa [ins] using h
 | cons q L ih =>
  rw [ins] at h
  split at h
  ·rcases List.mem_cons.1 h with rfl | h
   ·exact .inr (by simp)
   ·exact (ih h).imp id (fun h => by simp [h])
  ·split at h
   ·rcases List.mem_cons.1 h with rfl | h
    ·exact .inl rfl
    ·exact .inr (by simp [h])
   ·rcases List.mem_cons.1 h with rfl | h
    ·exact .inl rfl
    ·exact .inr h
theorem del_mem {k : Str} {L : List Pr} {p : Pr} (h : p ∈ del k L) : p ∈ L := by
 induction L with
 | nil => cases h
 | cons q L ih =>
  rw [del] at h
  split at h
  ·rcases List.mem_cons.1 h with rfl | h
   ·simp
   ·simp [ih h]
  ·split at h
   ·simp [h]
   ·exact h
theorem Sorted.ins {L : List Pr} (h : Sorted L) (x : Pr) : Sorted (ins x L) := by
 induction L with
 | nil => exact List.pairwise_singleton _ _
 | cons q L ih =>
  have h' := List.pairwise_cons.1 h
  rw [Tr.ins]
  by_cases h1 : less q.1 x.1 = true
  ·rw [if_pos h1]
   refine List.pairwise_cons.2 ⟨fun p hp => ?_, ih h'.2⟩
   rcases ins_mem hp with rfl | hp
   ·exact h1
   ·exact h'.1 p hp
  ·rw [if_neg h1]
   by_cases h2 : q.1 = x.1
   ·rw [if_pos h2]
    exact List.pairwise_cons.2 ⟨fun p hp => by rw [← h2]; exact h'.1 p hp, h'.2⟩
   ·rw [if_neg h2]
    exact List.pairwise_cons.2 ⟨fun p hp => h.abv_of (less_of (by simpa using h1) h2) p hp, h⟩
theorem Sorted.del {L : List Pr} (h : Sorted L) (k : Str) : Sorted (del k L) := by
 induction L with
 | nil => exact h
 | cons q L ih =>
  have h' := List.pairwise_cons.1 h
  rw [Tr.del]
  by_cases h1 : less q.1 k = true
  ·rw [if_pos h1]
   exact List.pairwise_cons.2 ⟨fun p hp => h'.1 p (del_mem hp), ih h'.2⟩
  ·rw [if_neg h1]
   by_cases h2 : q.1 = k
   ·rw [if_pos h2]; exact h'.2
   ·rw [if_neg h2]; exact h
theorem ins_len (x : Pr) (L : List Pr) : (ins x L).length = L.length + if get x.1 L = none then 1 else 0 := by
 induction L with
 | nil => rfl
 | cons q L ih =>
  rw [ins, get]
  by_cases h1 : less q.1 x.1 = true
  ·rw [if_pos h1, if_pos h1, List.length_cons, ih, List.length_cons]; omega
  ·rw [if_neg h1, if_neg h1]
   by_cases h2 : q.1 = x.1
   ·rw [if_pos h2, if_pos h2]; simp
   ·rw [if_neg h2, if_neg h2]; simp
theorem del_len (k : Str) (L : List Pr) : (del k L).length + (if get k L = none then 0 else 1) = L.length := by
 induction L with
 | nil => rfl
 | cons q L ih =>
  rw [del, get]
  by_cases h1 : less q.1 k = true
  ·rw [if_pos h1, if_pos h1, List.length_cons, List.length_cons, ← ih]; omega
  ·rw [if_neg h1, if_neg h1]
   by_cases h2 : q.1 = k
   ·rw [if_pos h2, if_pos h2]; simp
   ·rw [if_neg h2, if_neg h2]; simp
theorem del_none {k : Str} {L : List Pr} (h : get k L = none) : del k L = L := by
 induction L with
 | nil => rfl
 | cons q L ih =>
  rw [get] at h
  rw [del]
  by_cases h1 : less q.1 k = true
  ·rw [if_pos h1] at h ⊢; rw [ih h]
  ·rw [if_neg h1] at h ⊢
   by_cases h2 : q.1 = k
   ·rw [if_pos h2] at h; cases h
   ·rw [if_neg h2]
theorem pl_le (k : Str) (L : List Pr) : pl k L ≤ L.length := by
 induction L with
 | nil => exact Nat.le_refl _
 | cons q L ih => rw [pl]; split <;> simp <;> omega
theorem ins_place (x : Pr) (L : List Pr) : ins x L = L.take (pl x.1 L) ++ x :: L.drop (pl x.1 L + if get x.1 L = none then 0 else 1) := by
 induction L with
 | nil => rfl
 | cons q L ih =>
  rw [ins, pl, get]
  by_cases h1 : less q.1 x.1 = true
  ·rw [if_pos h1, if_pos h1, if_pos h1, ih, List.take_succ_cons, List.cons_append, Nat.add_right_comm, List.drop_succ_cons]
  ·rw [if_neg h1, if_neg h1, if_neg h1]
   by_cases h2 : q.1 = x.1
   ·rw [if_pos h2, if_pos h2]; simp
   ·rw [if_neg h2, if_neg h2]; simp
theorem del_place (k : Str) (L : List Pr) : del k L = L.take (pl k L) ++ L.drop (pl k L + if get k L = none then 0 else 1) := by
 induction L with
 | nil => rfl
 | cons q L ih =>
  rw [del, pl, get]
  by_cases h1 : less q.1 k = true
  ·rw [if_pos h1, if_pos h1, if_pos h1, ih, List.take_succ_cons, List.cons_append, Nat.add_right_comm, List.drop_succ_cons]
  ·rw [if_neg h1, if_neg h1, if_neg h1]
   by_cases h2 : q.1 = k
   ·rw [if_pos h2, if_pos h2]; simp
   ·rw [if_neg h2, if_neg h2]; simp
theorem ceil_place (k : Str) (L : List Pr) : ceil k L = L[pl k L]? := by
 induction L with
 | nil => rfl
 | cons q L ih =>
  rw [ceil, pl]
  by_cases h1 : less q.1 k = true
  ·rw [if_pos h1, if_pos h1, ih]; rfl
  ·rw [if_neg h1, if_neg h1]; rfl
theorem pl_lt {k : Str} {L : List Pr} {i : Nat} {p : Pr} (h : i < pl k L) (hp : L[i]? = some p) : less p.1 k = true := by
 induction L generalizing i with
 | nil => cases hp
 | cons q L ih =>
  rw [pl] at h
  by_cases h1 : less q.1 k = true
  ·rw [if_pos h1] at h
   cases i with
   | zero => cases hp; exact h1
   | succ i => exact ih (by omega) hp
  ·rw [if_neg h1] at h; omega
theorem pl_at {k : Str} {L : List Pr} {p : Pr} (hp : L[pl k L]? = some p) : less p.1 k = false := by
 induction L with
 | nil => cases hp
 | cons q L ih =>
  rw [pl] at hp
  by_cases h1 : less q.1 k = true
  ·rw [if_pos h1] at hp; exact ih hp
  ·rw [if_neg h1] at hp; cases hp; simpa using h1
theorem pl_of {k : Str} {L : List Pr} {i : Nat} (hi : i ≤ L.length) (h1 : ∀ j p, j < i → L[j]? = some p → less p.1 k = true) (h2 : ∀ p, L[i]? = some p → less p.1 k = false) : pl k L = i := by
 rcases Nat.lt_trichotomy (pl k L) i with h | h | h
 ·have hlt : pl k L < L.length := by omega
  have hp := List.getElem?_eq_getElem hlt
  have := h1 _ _ h hp
  rw [pl_at hp] at this; cases this
 ·exact h
 ·have hlt : i < L.length := by have := pl_le k L; omega
  have hp := List.getElem?_eq_getElem hlt
  have := pl_lt h hp
  rw [h2 _ hp] at this; cases this
end Tr
end Go.Proofs.YtecnijnmgdfdhaaGreat

namespace Go.Proofs.YtecnijnmgdfdhaaGreat
namespace Tr
open Ky (less)
inductive G where
 | mk (b : Nat) (Fp Fk : Nat → Nat → Prop) (ps : List Pr) (ks : List G)
namespace G
def b : G → Nat | mk b _ _ _ _ => b
def Fp : G → Nat → Nat → Prop | mk _ F _ _ _ => F
def Fk : G → Nat → Nat → Prop | mk _ _ F _ _ => F
def ps : G → List Pr | mk _ _ _ p _ => p
def ks : G → List G | mk _ _ _ _ k => k
end G
def weave : List (List Pr) → List Pr → List Pr
 | [], D => D
 | K :: _, [] => K
 | K :: B, p :: D => K ++ p :: weave B D
def flat : Nat → G → List Pr
 | 0, g => g.ps
 | h + 1, g => weave (g.ks.map (flat h)) g.ps
def fl : Nat → List Pr → List G → List Pr
 | 0, ps, _ => ps
 | h + 1, ps, ks => weave (ks.map (flat h)) ps
theorem flat_fl (h : Nat) (g : G) : flat h g = fl h g.ps g.ks := by cases h <;> rfl
def Kids (o : Nat) : Nat → G → Prop
 | 0, g => g.ks = []
 | h + 1, g => g.ks.length = g.ps.length + 1 ∧ ∀ k ∈ g.ks, Kids o h k ∧ o ≤ k.ps.length + 1 ∧ k.ps.length + 1 ≤ 2 * o
def Arity (h : Nat) (n m : Nat) : Prop := match h with | 0 => m = 0 | _ + 1 => m = n + 1
def KidsL (o h : Nat) (ks : List G) : Prop := match h with | 0 => True | h + 1 => ∀ k ∈ ks, Kids o h k ∧ o ≤ k.ps.length + 1 ∧ k.ps.length + 1 ≤ 2 * o
theorem kids_iff (o h : Nat) (g : G) : Kids o h g ↔ Arity h g.ps.length g.ks.length ∧ KidsL o h g.ks := by
 cases h with
 | zero => simp [Kids, Arity, KidsL]
 | succ h => exact Iff.rfl
theorem KidsL.append {o h : Nat} {A B : List G} : KidsL o h (A ++ B) ↔ KidsL o h A ∧ KidsL o h B := by
 cases h with
 | zero => simp [KidsL]
 | succ h =>
  constructor
  ·exact fun h => ⟨fun k hk => h k (by simp [hk]), fun k hk => h k (by simp [hk])⟩
  ·exact fun h k hk => (List.mem_append.1 hk).elim (h.1 k) (h.2 k)
theorem KidsL.cons {o h : Nat} {k : G} {B : List G} : KidsL o h (k :: B) ↔ KidsL o h [k] ∧ KidsL o h B := KidsL.append (A := [k])
theorem KidsL.one {o h : Nat} {k : G} : KidsL o (h + 1) [k] ↔ Kids o h k ∧ o ≤ k.ps.length + 1 ∧ k.ps.length + 1 ≤ 2 * o := by simp [KidsL]
theorem weave_mid : ∀ (A : List (List Pr)) (C : List Pr) (m : Pr) (B : List (List Pr)) (D : List Pr), A.length = C.length + 1 → weave (A ++ B) (C ++ m :: D) = weave A C ++ m :: weave B D
 | [], C, m, B, D, h => by simp at h
 | [K], [], m, B, D, _ => rfl
 | _ :: _ :: _, [], m, B, D, h => by simp at h
 | [_], _ :: _, m, B, D, h => by simp at h
 | K :: K2 :: A, c :: C, m, B, D, h => by
  have ih := weave_mid (K2 :: A) C m B D (by simpa using h)
  show K ++ c :: weave (K2 :: A ++ B) (C ++ m :: D) = K ++ c :: weave (K2 :: A) C ++ m :: weave B D
  rw [ih]; simp
theorem fl_mid {h : Nat} {X Y : List Pr} {m : Pr} {KX KY : List G} (hx : Arity h X.length KX.length) : fl h (X ++ m :: Y) (KX ++ KY) = fl h X KX ++ m :: fl h Y KY := by
 cases h with
 | zero => rfl
 | succ h =>
  show weave ((KX ++ KY).map (flat h)) _ = weave (KX.map (flat h)) X ++ m :: weave (KY.map (flat h)) Y
  rw [List.map_append, weave_mid _ _ _ _ _ (by rw [List.length_map]; exact hx)]
def pre (h : Nat) : List G → List Pr → List Pr
 | k :: A, c :: C => flat h k ++ c :: pre h A C
 | _, _ => []
def suf (h : Nat) : List G → List Pr → List Pr
 | k :: B, d :: D => d :: flat h k ++ suf h B D
 | _, _ => []
theorem weave_kid (h : Nat) : ∀ (A : List G) (C : List Pr) (k : G) (B : List G) (D : List Pr), A.length = C.length → B.length = D.length → weave ((A ++ k :: B).map (flat h)) (C ++ D) = pre h A C ++ flat h k ++ suf h B D
 | [], [], k, [], [], _, _ => by simp [weave, pre, suf]
 | [], [], k, b :: B, d :: D, _, hb => by
  have ih := weave_kid h [] [] b B D rfl (by simpa using hb)
  simp only [List.nil_append, List.map_cons] at ih ⊢
  rw [weave, ih]
  simp [pre, suf]
 | [], [], k, [], d :: D, _, hb => by simp at hb
 | [], [], k, b :: B, [], _, hb => by simp at hb
 | [], c :: C, k, B, D, h, _ => by simp at h
 | a :: A, [], k, B, D, h, _ => by simp at h
 | a :: A, c :: C, k, B, D, ha, hb => by
  have ih := weave_kid h A C k B D (by simpa using ha) hb
  simp only [List.cons_append, List.map_cons] at ih ⊢
  rw [weave, ih]
  simp [pre]
theorem fl_kid {h : Nat} {A : List G} {C : List Pr} {k : G} {B : List G} {D : List Pr} (ha : A.length = C.length) (hb : B.length = D.length) : fl (h + 1) (C ++ D) (A ++ k :: B) = pre h A C ++ flat h k ++ suf h B D := weave_kid h A C k B D ha hb
theorem suf_cons (h : Nat) (k : G) (B : List G) (d : Pr) (D : List Pr) : suf h (k :: B) (d :: D) = d :: (flat h k ++ suf h B D) := rfl
theorem pre_last (h : Nat) : ∀ (A : List G) (C : List Pr), A.length = C.length → (A = [] ∧ C = []) ∨ ∃ X c C', pre h A C = X ++ [c] ∧ C = C' ++ [c]
 | [], [], _ => .inl ⟨rfl, rfl⟩
 | [], _ :: _, h => by simp at h
 | _ :: _, [], h => by simp at h
 | a :: A, c :: C, hl => by
  rcases pre_last h A C (by simpa using hl) with ⟨rfl, rfl⟩ | ⟨X, d, C', h1, h2⟩
  ·exact .inr ⟨flat h a, c, [], rfl, rfl⟩
  ·exact .inr ⟨flat h a ++ c :: X, d, c :: C', by rw [pre, h1]; simp, by rw [h2]; rfl⟩
theorem pre_bel {h : Nat} {A : List G} {C : List Pr} (hl : A.length = C.length) {R : List Pr} (hs : Sorted (pre h A C ++ R)) {k : Str} (hC : Bel C k) : Bel (pre h A C) k := by
 rcases pre_last h A C hl with ⟨rfl, rfl⟩ | ⟨X, c, C', h1, rfl⟩
 ·exact Bel.nil k
 ·rw [h1] at hs ⊢
  exact hs.left.bel_of (hC c (by simp))
theorem suf_abv {h : Nat} {B : List G} {D : List Pr} {L : List Pr} (hs : Sorted (L ++ suf h B D)) {k : Str} (hD : Abv D k) : Abv (suf h B D) k := by
 cases B with
 | nil => exact Abv.nil k
 | cons b B =>
  cases D with
  | nil => exact Abv.nil k
  | cons d D =>
   rw [suf_cons] at hs ⊢
   exact hs.right.abv_of (hD d (by simp))
theorem weave_mem {h : Nat} : ∀ {ps : List Pr} {ks : List G}, ks.length = ps.length + 1 → ∀ {q : Pr}, q ∈ ps → q ∈ weave (ks.map (flat h)) ps
 | [], _, _, _, hq => by cases hq
 | _ :: _, [], hl, _, _ => by simp at hl
 | c :: ps, k :: ks, hl, q, hq => by
  show q ∈ flat h k ++ c :: weave (ks.map (flat h)) ps
  rcases List.mem_cons.1 hq with rfl | hq
  ·simp
  ·have := weave_mem (h := h) (ps := ps) (ks := ks) (by simpa using hl) hq
   simp [this]
theorem pairs_sorted {h : Nat} : ∀ {ps : List Pr} {ks : List G}, Arity h ps.length ks.length → Sorted (fl h ps ks) → Sorted ps := by
 cases h with
 | zero => exact fun _ hs => hs
 | succ h =>
  intro ps
  induction ps with
  | nil => exact fun _ _ => Sorted.nil
  | cons p ps ih =>
   intro ks ha hs
   match ks, ha with
   | k :: ks, ha =>
    have ha' : ks.length = ps.length + 1 := by simpa [Arity] using ha
    have e : fl (h + 1) (p :: ps) (k :: ks) = flat h k ++ p :: fl (h + 1) ps ks := rfl
    rw [e] at hs
    exact List.pairwise_cons.2 ⟨fun q hq => hs.abv q (weave_mem ha' hq), ih (ks := ks) ha' (List.pairwise_cons.1 hs.right).2⟩
end Tr
end Go.Proofs.YtecnijnmgdfdhaaGreat

namespace Go.Proofs.YtecnijnmgdfdhaaGreat
namespace Tr
open Ky (less)
variable {o h : Nat} {A B KX KY : List G} {C D X Y : List Pr} {k k' l l' r r' g g' : G} {m z : Pr} {key v : Str}
theorem Arity.sum {n m : Nat} (h1 : Arity (h + 1) n m) : m = n + 1 := h1
theorem Arity.len (ha : A.length = C.length) (hb : B.length = D.length) : Arity (h + 1) (C ++ D).length (A ++ k :: B).length := by simp [Arity]; omega
theorem fl_two (ha : A.length = C.length) (hb : B.length = D.length) : fl (h + 1) (C ++ m :: D) (A ++ l :: r :: B) = pre h A C ++ (flat h l ++ m :: flat h r) ++ suf h B D := by
 have h1 : A ++ l :: r :: B = (A ++ [l]) ++ (r :: B) := by simp
 have h2 := fl_kid (h := h) (A := A) (C := C) (k := l) (B := []) (D := []) ha rfl
 have h3 := fl_kid (h := h) (A := []) (C := []) (k := r) (B := B) (D := D) rfl hb
 rw [List.append_nil] at h2
 rw [List.nil_append, List.nil_append] at h3
 rw [h1, fl_mid (by simp [Arity]; omega), h2, h3]
 simp [pre, suf]
theorem loc (ha : A.length = C.length) (hb : B.length = D.length) (hs : Sorted (fl (h + 1) (C ++ D) (A ++ k :: B))) (hC : Bel C key) (hD : Abv D key) : Bel (pre h A C) key ∧ Abv (suf h B D) key := by
 rw [fl_kid ha hb] at hs
 exact ⟨pre_bel ha (by rw [List.append_assoc] at hs; exact hs) hC, suf_abv hs hD⟩
theorem kid_sorted (ha : A.length = C.length) (hb : B.length = D.length) (hs : Sorted (fl (h + 1) (C ++ D) (A ++ k :: B))) : Sorted (flat h k) := by
 rw [fl_kid ha hb] at hs
 exact hs.left.right
theorem put_kid {x : Pr} (ha : A.length = C.length) (hb : B.length = D.length) (hs : Sorted (fl (h + 1) (C ++ D) (A ++ k :: B))) (hC : Bel C x.1) (hD : Abv D x.1) (hk : flat h k' = ins x (flat h k)) :
  fl (h + 1) (C ++ D) (A ++ k' :: B) = ins x (fl (h + 1) (C ++ D) (A ++ k :: B)) := by
 obtain ⟨h1, h2⟩ := loc ha hb hs hC hD
 rw [fl_kid ha hb, fl_kid ha hb, ins_right h2, ins_left h1, hk]
theorem del_kid (ha : A.length = C.length) (hb : B.length = D.length) (hs : Sorted (fl (h + 1) (C ++ D) (A ++ k :: B))) (hC : Bel C key) (hD : Abv D key) (hk : flat h k' = del key (flat h k)) :
  fl (h + 1) (C ++ D) (A ++ k' :: B) = del key (fl (h + 1) (C ++ D) (A ++ k :: B)) := by
 obtain ⟨h1, h2⟩ := loc ha hb hs hC hD
 rw [fl_kid ha hb, fl_kid ha hb, del_right h2, del_left h1, hk]
theorem get_kid (ha : A.length = C.length) (hb : B.length = D.length) (hs : Sorted (fl (h + 1) (C ++ D) (A ++ k :: B))) (hC : Bel C key) (hD : Abv D key) :
  get key (fl (h + 1) (C ++ D) (A ++ k :: B)) = get key (flat h k) := by
 obtain ⟨h1, h2⟩ := loc ha hb hs hC hD
 rw [fl_kid ha hb, get_right h2, get_left h1]
theorem ceil_kid (ha : A.length = C.length) (hb : B.length = D.length) (hs : Sorted (fl (h + 1) (C ++ D) (A ++ k :: B))) (hC : Bel C key) (hD : Abv D key) :
  ceil key (fl (h + 1) (C ++ D) (A ++ k :: B)) = (ceil key (flat h k)).or D.head? := by
 obtain ⟨h1, h2⟩ := loc ha hb hs hC hD
 rw [fl_kid ha hb, ceil_append, ceil_left h1, ceil_abv h2]
 congr 1
 cases D with
 | nil => cases B <;> simp [suf]
 | cons d D =>
  cases B with
  | nil => simp at hb
  | cons b B => rfl
theorem at_node {ks : List G} (ha : Arity h (C ++ (key, v) :: D).length ks.length) (hs : Sorted (fl h (C ++ (key, v) :: D) ks)) :
  ∃ KX KY, ks = KX ++ KY ∧ Arity h C.length KX.length ∧ Arity h D.length KY.length ∧ Bel (fl h C KX) key := by
 cases h with
 | zero =>
  have : ks = [] := List.eq_nil_of_length_eq_zero ha
  subst this
  exact ⟨[], [], rfl, rfl, rfl, hs.bel⟩
 | succ h =>
  have hl : ks.length = C.length + D.length + 2 := by simp [Arity] at ha; omega
  refine ⟨ks.take (C.length + 1), ks.drop (C.length + 1), (List.take_append_drop _ _).symm, ?_, ?_, ?_⟩
  ·simp [Arity]; omega
  ·simp [Arity]; omega
  ·rw [← List.take_append_drop (C.length + 1) ks, fl_mid (by simp [Arity]; omega)] at hs
   exact hs.bel
theorem put_node {ks : List G} {u : Str} (ha : Arity h (C ++ (key, v) :: D).length ks.length) (hs : Sorted (fl h (C ++ (key, v) :: D) ks)) :
  fl h (C ++ (key, u) :: D) ks = ins (key, u) (fl h (C ++ (key, v) :: D) ks) ∧ get key (fl h (C ++ (key, v) :: D) ks) = some v := by
 obtain ⟨KX, KY, rfl, h1, h2, h3⟩ := at_node ha hs
 rw [fl_mid h1, fl_mid h1, ins_left h3, get_left h3]
 refine ⟨?_, ?_⟩
 ·rw [ins, if_neg (by rw [less_irr]; decide), if_pos rfl]
 ·rw [get, if_neg (by rw [less_irr]; decide), if_pos rfl]
theorem ceil_node {ks : List G} (ha : Arity h (C ++ (key, v) :: D).length ks.length) (hs : Sorted (fl h (C ++ (key, v) :: D) ks)) :
  ceil key (fl h (C ++ (key, v) :: D) ks) = some (key, v) := by
 obtain ⟨KX, KY, rfl, h1, h2, h3⟩ := at_node ha hs
 rw [fl_mid h1, ceil_left h3, ceil, if_neg (by rw [less_irr]; decide)]
theorem put_leaf {x : Pr} (hC : Bel C x.1) (hD : Abv D x.1) (ks ks' : List G) : fl 0 (C ++ x :: D) ks' = ins x (fl 0 (C ++ D) ks) ∧ get x.1 (fl 0 (C ++ D) ks) = none := by
 show C ++ x :: D = ins x (C ++ D) ∧ get x.1 (C ++ D) = none
 rw [ins_left hC, ← List.nil_append D, ins_right hD, get_left hC, get_right hD]
 exact ⟨rfl, rfl⟩
theorem del_leaf (hC : Bel C key) (ks ks' : List G) : fl 0 (C ++ D) ks' = del key (fl 0 (C ++ (key, v) :: D) ks) := by
 show C ++ D = del key (C ++ (key, v) :: D)
 rw [del_left hC, del, if_neg (by rw [less_irr]; decide), if_pos rfl]
theorem ceil_leaf (hC : Bel C key) (hD : Abv D key) (ks : List G) : ceil key (fl 0 (C ++ D) ks) = D.head? := by
 show ceil key (C ++ D) = _
 rw [ceil_left hC, ceil_abv hD]
theorem del_node (ha : A.length = C.length) (hb : B.length = D.length + 1) (hs : Sorted (fl (h + 1) (C ++ (key, v) :: D) (A ++ k :: B))) (hk : flat h k = flat h k' ++ [z]) :
  fl (h + 1) (C ++ z :: D) (A ++ k' :: B) = del key (fl (h + 1) (C ++ (key, v) :: D) (A ++ k :: B)) := by
 match B, hb with
 | b :: B, hb =>
  have hb' : B.length = D.length := by simpa using hb
  rw [fl_two ha hb'] at hs
  rw [fl_two ha hb', fl_two ha hb', hk]
  have h1 : Bel (pre h A C ++ flat h k) key := by
   have := hs.left
   rw [← List.append_assoc] at this
   exact this.bel
  rw [hk] at h1
  have e1 : ∀ x : Pr, ∀ L : List Pr, pre h A C ++ (L ++ x :: flat h b) ++ suf h B D = (pre h A C ++ L) ++ (x :: (flat h b ++ suf h B D)) := fun x L => by simp
  rw [e1, e1, del_left h1, del, if_neg (by rw [less_irr]; decide), if_pos rfl]
  simp
theorem last_kid (ha : A.length = C.length) (hk : flat h k = flat h k' ++ [z]) : fl (h + 1) C (A ++ [k]) = fl (h + 1) C (A ++ [k']) ++ [z] := by
 have h1 := fl_kid (h := h) (A := A) (C := C) (k := k) (B := []) (D := []) ha rfl
 have h2 := fl_kid (h := h) (A := A) (C := C) (k := k') (B := []) (D := []) ha rfl
 rw [List.append_nil] at h1 h2
 rw [h1, h2, hk]
 simp [suf]
theorem two_one (ha : A.length = C.length) (hb : B.length = D.length) (hk : flat h k = flat h l ++ m :: flat h r) : fl (h + 1) (C ++ m :: D) (A ++ l :: r :: B) = fl (h + 1) (C ++ D) (A ++ k :: B) := by
 rw [fl_two ha hb, fl_kid ha hb, hk]
theorem two_two (ha : A.length = C.length) (hb : B.length = D.length) (hk : flat h l ++ m :: flat h r = flat h l' ++ z :: flat h r') : fl (h + 1) (C ++ m :: D) (A ++ l :: r :: B) = fl (h + 1) (C ++ z :: D) (A ++ l' :: r' :: B) := by
 rw [fl_two ha hb, fl_two ha hb, hk]
theorem cut_flat (hp : k.ps = l.ps ++ m :: r.ps) (hk : k.ks = l.ks ++ r.ks) (ha : Arity h l.ps.length l.ks.length) : flat h k = flat h l ++ m :: flat h r := by
 rw [flat_fl, hp, hk, fl_mid ha, ← flat_fl, ← flat_fl]
theorem left_flat (hp : l.ps = l'.ps ++ [z]) (hk : l.ks = l'.ks ++ KY) (ha : Arity h l'.ps.length l'.ks.length) (hy : Arity h 0 KY.length) (hp' : r'.ps = m :: r.ps) (hk' : r'.ks = KY ++ r.ks) :
  flat h l ++ m :: flat h r = flat h l' ++ z :: flat h r' := by
 rw [flat_fl h l, hp, hk, fl_mid ha, flat_fl h r', hp', hk', ← List.nil_append (m :: r.ps), fl_mid hy, ← flat_fl, ← flat_fl]
 simp
theorem right_flat (hp : r.ps = z :: r'.ps) (hk : r.ks = KX ++ r'.ks) (hx : Arity h 0 KX.length) (hp' : l'.ps = l.ps ++ [m]) (hk' : l'.ks = l.ks ++ KX) (ha : Arity h l.ps.length l.ks.length) :
  flat h l ++ m :: flat h r = flat h l' ++ z :: flat h r' := by
 rw [flat_fl h r, hp, hk, ← List.nil_append (z :: r'.ps), fl_mid hx, flat_fl h l', hp', hk', fl_mid ha, ← flat_fl, ← flat_fl]
 simp
end Tr
end Go.Proofs.YtecnijnmgdfdhaaGreat

namespace Go.Proofs.YtecnijnmgdfdhaaGreat
namespace Tr
open Ky (less)
variable {o h : Nat} {A B KX KY : List G} {C D X Y : List Pr} {k k' l r g g' g1 : G} {m z : Pr} {key v u : Str}
structure PutP (o h : Nat) (g : G) (key v : Str) (g' : G) : Prop where
 b : g'.b = g.b
 kids : Kids o h g'
 flat : flat h g' = ins (key, v) (flat h g)
 lo : g.ps.length ≤ g'.ps.length
 hi : g'.ps.length ≤ g.ps.length + 1
theorem kids_split (hk : Kids o h k) (hp : k.ps = X ++ m :: Y) (hX : X.length + 1 = o) : ∃ KX KY, k.ks = KX ++ KY ∧ Arity h X.length KX.length ∧ Arity h Y.length KY.length := by
 obtain ⟨h1, _⟩ := (kids_iff o h k).1 hk
 cases h with
 | zero => exact ⟨[], [], List.eq_nil_of_length_eq_zero h1, rfl, rfl⟩
 | succ h =>
  have hl : k.ks.length = X.length + Y.length + 2 := by rw [hp] at h1; simp [Arity] at h1; omega
  exact ⟨k.ks.take (X.length + 1), k.ks.drop (X.length + 1), (List.take_append_drop _ _).symm, by simp [Arity]; omega, by simp [Arity]; omega⟩
theorem kids_mk (ha : Arity h g.ps.length g.ks.length) (hl : KidsL o h g.ks) : Kids o h g := (kids_iff o h g).2 ⟨ha, hl⟩
theorem put_found (hk : Kids o h g) (hs : Sorted (flat h g)) (hp : g.ps = C ++ (key, u) :: D) (hb : g'.b = g.b) (hp' : g'.ps = C ++ (key, v) :: D) (hk' : g'.ks = g.ks) : PutP o h g key v g' ∧ get key (flat h g) = some u := by
 obtain ⟨h1, h2⟩ := (kids_iff o h g).1 hk
 rw [hp] at h1
 rw [flat_fl, hp] at hs
 obtain ⟨h3, h4⟩ := put_node (u := v) h1 hs
 refine ⟨⟨hb, kids_mk (by rw [hp', hk']; simpa using h1) (by rw [hk']; exact h2), ?_, by rw [hp, hp']; simp, by rw [hp, hp']; simp⟩, by rw [flat_fl, hp]; exact h4⟩
 rw [flat_fl, flat_fl, hp, hp', hk']; exact h3
theorem put_leaf_ (hk : Kids o 0 g) (hC : Bel C key) (hD : Abv D key) (hp : g.ps = C ++ D) (hb : g'.b = g.b) (hp' : g'.ps = C ++ (key, v) :: D) (hk' : g'.ks = g.ks) : PutP o 0 g key v g' ∧ get key (flat 0 g) = none := by
 obtain ⟨h3, h4⟩ := put_leaf (x := (key, v)) hC hD g.ks g'.ks
 refine ⟨⟨hb, ?_, ?_, by rw [hp, hp']; simp, by rw [hp, hp']; simp; omega⟩, by rw [flat_fl, hp]; exact h4⟩
 ·show g'.ks = []; rw [hk']; exact hk
 ·rw [flat_fl, flat_fl, hp, hp']; exact h3
theorem kidsL_mid {A B : List G} : KidsL o (h + 1) (A ++ k :: B) ↔ KidsL o (h + 1) A ∧ (Kids o h k ∧ o ≤ k.ps.length + 1 ∧ k.ps.length + 1 ≤ 2 * o) ∧ KidsL o (h + 1) B := by
 rw [KidsL.append, KidsL.cons, KidsL.one]
theorem put_kid_ (hk : Kids o (h + 1) g) (hs : Sorted (flat (h + 1) g)) (hC : Bel C key) (hD : Abv D key) (hp : g.ps = C ++ D) (hks : g.ks = A ++ k :: B) (ha : A.length = C.length) (hP : PutP o h k key v k') (hsz : k'.ps.length + 1 ≤ 2 * o)
  (hb : g'.b = g.b) (hp' : g'.ps = g.ps) (hk' : g'.ks = A ++ k' :: B) : PutP o (h + 1) g key v g' := by
 obtain ⟨h1, h2⟩ := (kids_iff o (h + 1) g).1 hk
 rw [hks, hp] at h1
 rw [hks] at h2
 have hbl : B.length = D.length := by simp [Arity] at h1; omega
 obtain ⟨k1, ⟨k2, k3, k4⟩, k5⟩ := kidsL_mid.1 h2
 rw [flat_fl, hp, hks] at hs
 refine ⟨hb, kids_mk (by rw [hp', hk', hp]; simpa [Arity] using h1) (by rw [hk']; exact kidsL_mid.2 ⟨k1, ⟨hP.kids, by have := hP.lo; omega, hsz⟩, k5⟩), ?_, by rw [hp']; omega, by rw [hp']; omega⟩
 rw [flat_fl, flat_fl, hp', hk', hp, hks]
 exact put_kid ha hbl hs hC hD hP.flat
theorem get_kid_ (hk : Kids o (h + 1) g) (hs : Sorted (flat (h + 1) g)) (hC : Bel C key) (hD : Abv D key) (hp : g.ps = C ++ D) (hks : g.ks = A ++ k :: B) (ha : A.length = C.length) :
  get key (flat (h + 1) g) = get key (flat h k) ∧ Sorted (flat h k) ∧ Kids o h k ∧ o ≤ k.ps.length + 1 ∧ k.ps.length + 1 ≤ 2 * o := by
 obtain ⟨h1, h2⟩ := (kids_iff o (h + 1) g).1 hk
 rw [hks, hp] at h1
 rw [hks] at h2
 have hbl : B.length = D.length := by simp [Arity] at h1; omega
 obtain ⟨k1, k2, k5⟩ := kidsL_mid.1 h2
 rw [flat_fl, hp, hks] at hs
 exact ⟨by rw [flat_fl, hp, hks]; exact get_kid ha hbl hs hC hD, kid_sorted ha hbl hs, k2⟩
theorem put_split_ (hk : Kids o (h + 1) g) (hs : Sorted (flat (h + 1) g)) (hC : Bel C key) (hD : Abv D key) (hp : g.ps = C ++ D) (hks : g.ks = A ++ k :: B) (ha : A.length = C.length) (hP : PutP o h k key v k') (ho : 2 ≤ o) (hX : X.length + 1 = o) (hY : Y.length + 1 ≤ 2 * o ∧ o ≤ Y.length + 1)
  (hkp : k'.ps = X ++ m :: Y) (hkk : k'.ks = KX ++ KY) (hax : Arity h X.length KX.length) (hay : Arity h Y.length KY.length) (hlp : l.ps = X) (hlk : l.ks = KX) (hrp : r.ps = Y) (hrk : r.ks = KY)
  (hb : g'.b = g.b) (hp' : g'.ps = C ++ m :: D) (hk' : g'.ks = A ++ l :: r :: B) : PutP o (h + 1) g key v g' := by
 obtain ⟨h1, h2⟩ := (kids_iff o (h + 1) g).1 hk
 rw [hks, hp] at h1
 rw [hks] at h2
 have hbl : B.length = D.length := by simp [Arity] at h1; omega
 obtain ⟨k1, ⟨k2, k3, k4⟩, k5⟩ := kidsL_mid.1 h2
 rw [flat_fl, hp, hks] at hs
 obtain ⟨q1, q2⟩ := (kids_iff o h k').1 hP.kids
 rw [hkk] at q2
 obtain ⟨q3, q4⟩ := KidsL.append.1 q2
 have hKl : Kids o h l := kids_mk (by rw [hlp, hlk]; exact hax) (by rw [hlk]; exact q3)
 have hKr : Kids o h r := kids_mk (by rw [hrp, hrk]; exact hay) (by rw [hrk]; exact q4)
 refine ⟨hb, kids_mk (by rw [hp', hk']; simp [Arity]; omega) ?_, ?_, by rw [hp, hp']; simp, by rw [hp, hp']; simp; omega⟩
 ·rw [hk']
  exact kidsL_mid.2 ⟨k1, ⟨hKl, by rw [hlp]; omega, by rw [hlp]; omega⟩, KidsL.cons.2 ⟨KidsL.one.2 ⟨hKr, by rw [hrp]; omega, by rw [hrp]; omega⟩, k5⟩⟩
 ·rw [flat_fl, flat_fl, hp', hk', hp, hks, two_one ha hbl (cut_flat (k := k') (by rw [hkp, hlp, hrp]) (by rw [hkk, hlk, hrk]) (by rw [hlp, hlk]; exact hax))]
  exact put_kid ha hbl hs hC hD hP.flat
end Tr
end Go.Proofs.YtecnijnmgdfdhaaGreat

namespace Go.Proofs.YtecnijnmgdfdhaaGreat
namespace Tr
open Ky (less)
variable {o h : Nat} {A B KX KY : List G} {C D X Y : List Pr} {k k' l r l' r' g g' g1 : G} {m z : Pr} {key v u : Str}
structure Near (o h : Nat) (g : G) (A : List G) (k : G) (B : List G) : Prop where
 ks : g.ks = A ++ k :: B
 ar : g.ks.length = g.ps.length + 1
 a : KidsL o (h + 1) A
 kid : Tr.Kids o h k
 lo : o ≤ k.ps.length + 2
 hi : k.ps.length + 1 ≤ 2 * o
 b : KidsL o (h + 1) B
structure MendP (o h : Nat) (g g' : G) : Prop where
 b : g'.b = g.b
 kids : Kids o (h + 1) g'
 flat : flat (h + 1) g' = flat (h + 1) g
 lo : g.ps.length ≤ g'.ps.length + 1
 hi : g'.ps.length ≤ g.ps.length
 fine : KidsL o (h + 1) g.ks → g'.ps.length = g.ps.length
theorem Near.fine (hn : Near o h g A k B) (hk : o ≤ k.ps.length + 1) : MendP o h g g :=
 ⟨rfl, kids_mk hn.ar (by rw [hn.ks]; exact kidsL_mid.2 ⟨hn.a, ⟨hn.kid, hk, hn.hi⟩, hn.b⟩), rfl, by omega, Nat.le_refl _, fun _ => rfl⟩
theorem last_split (hk : Tr.Kids o h l) (hl : 0 < l.ps.length) : ∃ X z KX KY, l.ps = X ++ [z] ∧ l.ks = KX ++ KY ∧ Arity h X.length KX.length ∧ Arity h 0 KY.length := by
 obtain ⟨h1, _⟩ := (kids_iff o h l).1 hk
 have hne : l.ps ≠ [] := by intro e; rw [e] at hl; simp at hl
 refine ⟨l.ps.dropLast, l.ps.getLast hne, ?_⟩
 cases h with
 | zero => exact ⟨[], [], (List.dropLast_concat_getLast hne).symm, List.eq_nil_of_length_eq_zero h1, rfl, rfl⟩
 | succ h =>
  have h1 : l.ks.length = l.ps.length + 1 := h1
  refine ⟨l.ks.take l.ps.length, l.ks.drop l.ps.length, (List.dropLast_concat_getLast hne).symm, (List.take_append_drop _ _).symm, ?_, ?_⟩
  ·simp [Arity]; omega
  ·simp [Arity]; omega
theorem first_split (hk : Tr.Kids o h r) (hl : 0 < r.ps.length) : ∃ z Y KX KY, r.ps = z :: Y ∧ r.ks = KX ++ KY ∧ Arity h 0 KX.length ∧ Arity h Y.length KY.length := by
 obtain ⟨h1, _⟩ := (kids_iff o h r).1 hk
 match hp : r.ps, hl with
 | z :: Y, _ =>
  rw [hp] at h1
  cases h with
  | zero => exact ⟨z, Y, [], [], rfl, List.eq_nil_of_length_eq_zero h1, rfl, rfl⟩
  | succ h =>
   have h1 : r.ks.length = Y.length + 1 + 1 := h1
   exact ⟨z, Y, r.ks.take 1, r.ks.drop 1, rfl, (List.take_append_drop _ _).symm, by simp [Arity]; omega, by simp [Arity]; omega⟩
theorem kidsL_two : KidsL o (h + 1) (A ++ l :: r :: B) ↔ KidsL o (h + 1) A ∧ (Tr.Kids o h l ∧ o ≤ l.ps.length + 1 ∧ l.ps.length + 1 ≤ 2 * o) ∧ (Tr.Kids o h r ∧ o ≤ r.ps.length + 1 ∧ r.ps.length + 1 ≤ 2 * o) ∧ KidsL o (h + 1) B := by
 rw [kidsL_mid, KidsL.cons, KidsL.one]
theorem mend_left (hA : KidsL o (h + 1) A) (hB : KidsL o (h + 1) B) (hl : Tr.Kids o h l) (hlo : o ≤ l.ps.length) (hhi : l.ps.length + 1 ≤ 2 * o) (hr : Tr.Kids o h r) (hr1 : r.ps.length + 2 = o) (_ho : 2 ≤ o) (ha : A.length = C.length) (hb : B.length = D.length)
  (hg : g.ps = C ++ m :: D) (hgk : g.ks = A ++ l :: r :: B) (hlp : l.ps = X ++ [z]) (hlk : l.ks = KX ++ KY) (ax : Arity h X.length KX.length) (ay : Arity h 0 KY.length)
  (e0 : g'.b = g.b) (e1 : g'.ps = C ++ z :: D) (e2 : g'.ks = A ++ l' :: r' :: B) (e3 : l'.ps = X) (e4 : l'.ks = KX) (e5 : r'.ps = m :: r.ps) (e6 : r'.ks = KY ++ r.ks) : MendP o h g g' := by
 obtain ⟨h1, h2⟩ := (kids_iff o h l).1 hl
 obtain ⟨h3, h4⟩ := (kids_iff o h r).1 hr
 rw [hlk] at h2
 obtain ⟨h5, h6⟩ := KidsL.append.1 h2
 have hXl : l.ps.length = X.length + 1 := by rw [hlp]; simp
 have hKl : Tr.Kids o h l' := kids_mk (by rw [e3, e4]; exact ax) (by rw [e4]; exact h5)
 have hKr : Tr.Kids o h r' := kids_mk (by
  rw [e5, e6]
  cases h with
  | zero =>
   show (KY ++ r.ks).length = 0
   rw [List.length_append, show KY.length = 0 from ay, show r.ks.length = 0 from h3]
  | succ h =>
   show (KY ++ r.ks).length = (m :: r.ps).length + 1
   rw [List.length_append, show KY.length = 0 + 1 from ay, show r.ks.length = r.ps.length + 1 from h3, List.length_cons]; omega) (by rw [e6]; exact KidsL.append.2 ⟨h6, h4⟩)
 refine ⟨e0, kids_mk (by rw [e1, e2]; simp [Arity]; omega) (by rw [e2]; exact kidsL_two.2 ⟨hA, ⟨hKl, by rw [e3]; omega, by rw [e3]; omega⟩, ⟨hKr, by rw [e5]; simp; omega, by rw [e5]; simp; omega⟩, hB⟩), ?_, by rw [e1, hg]; simp, by rw [e1, hg]; simp, fun _ => by rw [e1, hg]; simp⟩
 rw [flat_fl, flat_fl, e1, e2, hg, hgk]
 exact (two_two ha hb (left_flat (by rw [hlp, e3]) (by rw [hlk, e4]) (by rw [e3, e4]; exact ax) ay e5 e6)).symm
theorem mend_right (hA : KidsL o (h + 1) A) (hB : KidsL o (h + 1) B) (hl : Tr.Kids o h l) (hl1 : l.ps.length + 2 = o) (hr : Tr.Kids o h r) (hlo : o ≤ r.ps.length) (hhi : r.ps.length + 1 ≤ 2 * o) (_ho : 2 ≤ o) (ha : A.length = C.length) (hb : B.length = D.length)
  (hg : g.ps = C ++ m :: D) (hgk : g.ks = A ++ l :: r :: B) (hrp : r.ps = z :: Y) (hrk : r.ks = KX ++ KY) (ax : Arity h 0 KX.length) (ay : Arity h Y.length KY.length)
  (e0 : g'.b = g.b) (e1 : g'.ps = C ++ z :: D) (e2 : g'.ks = A ++ l' :: r' :: B) (e3 : l'.ps = l.ps ++ [m]) (e4 : l'.ks = l.ks ++ KX) (e5 : r'.ps = Y) (e6 : r'.ks = KY) : MendP o h g g' := by
 obtain ⟨h1, h2⟩ := (kids_iff o h l).1 hl
 obtain ⟨h3, h4⟩ := (kids_iff o h r).1 hr
 rw [hrk] at h4
 obtain ⟨h5, h6⟩ := KidsL.append.1 h4
 have hYl : r.ps.length = Y.length + 1 := by rw [hrp]; simp
 have hKr : Tr.Kids o h r' := kids_mk (by rw [e5, e6]; exact ay) (by rw [e6]; exact h6)
 have hKl : Tr.Kids o h l' := kids_mk (by
  rw [e3, e4]
  cases h with
  | zero =>
   show (l.ks ++ KX).length = 0
   rw [List.length_append, show KX.length = 0 from ax, show l.ks.length = 0 from h1]
  | succ h =>
   show (l.ks ++ KX).length = (l.ps ++ [m]).length + 1
   rw [List.length_append, List.length_append, show KX.length = 0 + 1 from ax, show l.ks.length = l.ps.length + 1 from h1]; rfl) (by rw [e4]; exact KidsL.append.2 ⟨h2, h5⟩)
 refine ⟨e0, kids_mk (by rw [e1, e2]; simp [Arity]; omega) (by rw [e2]; exact kidsL_two.2 ⟨hA, ⟨hKl, by rw [e3]; simp; omega, by rw [e3]; simp; omega⟩, ⟨hKr, by rw [e5]; omega, by rw [e5]; omega⟩, hB⟩), ?_, by rw [e1, hg]; simp, by rw [e1, hg]; simp, fun _ => by rw [e1, hg]; simp⟩
 rw [flat_fl, flat_fl, e1, e2, hg, hgk]
 exact (two_two ha hb (right_flat (by rw [hrp, e5]) (by rw [hrk, e6]) ax e3 e4 h1)).symm
theorem mend_join (hA : KidsL o (h + 1) A) (hB : KidsL o (h + 1) B) (hl : Tr.Kids o h l) (hr : Tr.Kids o h r) (hs1 : o ≤ l.ps.length + r.ps.length + 2) (hs2 : l.ps.length + r.ps.length + 3 ≤ 2 * o) (ha : A.length = C.length) (hb : B.length = D.length)
  (hg : g.ps = C ++ m :: D) (hgk : g.ks = A ++ l :: r :: B)
  (e0 : g'.b = g.b) (e1 : g'.ps = C ++ D) (e2 : g'.ks = A ++ l' :: B) (e3 : l'.ps = l.ps ++ m :: r.ps) (e4 : l'.ks = l.ks ++ r.ks) : MendP o h g g' := by
 obtain ⟨h1, h2⟩ := (kids_iff o h l).1 hl
 obtain ⟨h3, h4⟩ := (kids_iff o h r).1 hr
 have hKl : Tr.Kids o h l' := kids_mk (by
  rw [e3, e4]
  cases h with
  | zero =>
   show (l.ks ++ r.ks).length = 0
   rw [List.length_append, show r.ks.length = 0 from h3, show l.ks.length = 0 from h1]
  | succ h =>
   show (l.ks ++ r.ks).length = (l.ps ++ m :: r.ps).length + 1
   rw [List.length_append, List.length_append, List.length_cons, show r.ks.length = r.ps.length + 1 from h3, show l.ks.length = l.ps.length + 1 from h1]; omega) (by rw [e4]; exact KidsL.append.2 ⟨h2, h4⟩)
 refine ⟨e0, kids_mk (by rw [e1, e2]; simp [Arity]; omega) (by rw [e2]; exact kidsL_mid.2 ⟨hA, ⟨hKl, by rw [e3]; simp; omega, by rw [e3]; simp; omega⟩, hB⟩), ?_, by rw [e1, hg]; simp; omega, by rw [e1, hg]; simp, fun hf => by rw [hgk] at hf; have := kidsL_two.1 hf; omega⟩
 rw [flat_fl, flat_fl, e1, e2, hg, hgk]
 exact (two_one ha hb (cut_flat (by rw [e3]) (by rw [e4]) h1)).symm
structure LastP (o h : Nat) (g : G) (z : Pr) (g' : G) : Prop where
 b : g'.b = g.b
 kids : Kids o h g'
 flat : flat h g = flat h g' ++ [z]
 lo : g.ps.length ≤ g'.ps.length + 1
 hi : g'.ps.length ≤ g.ps.length
structure DelP (o h : Nat) (g : G) (key : Str) (g' : G) : Prop where
 b : g'.b = g.b
 kids : Kids o h g'
 flat : flat h g' = del key (flat h g)
 lo : g.ps.length ≤ g'.ps.length + 1
 hi : g'.ps.length ≤ g.ps.length
 no : get key (Tr.flat h g) = none → g'.ps.length = g.ps.length
theorem kidsL_last : KidsL o (h + 1) (A ++ [k]) ↔ KidsL o (h + 1) A ∧ (Tr.Kids o h k ∧ o ≤ k.ps.length + 1 ∧ k.ps.length + 1 ≤ 2 * o) := by rw [KidsL.append, KidsL.one]
theorem near_last (hk : Tr.Kids o (h + 1) g) (hks : g.ks = A ++ [k]) (hP : LastP o h k z k') (e1 : g1.ps = g.ps) (e2 : g1.ks = A ++ [k']) : Near o h g1 A k' [] ∧ flat (h + 1) g = flat (h + 1) g1 ++ [z] := by
 obtain ⟨h1, h2⟩ := (kids_iff o (h + 1) g).1 hk
 have h1 : g.ks.length = g.ps.length + 1 := h1
 rw [hks] at h1 h2
 obtain ⟨k1, k2, k3, k4⟩ := kidsL_last.1 h2
 refine ⟨⟨e2, by rw [e1, e2]; simpa using h1, k1, hP.kids, by have := hP.lo; omega, by have := hP.hi; omega, by intro x hx; cases hx⟩, ?_⟩
 rw [flat_fl, flat_fl, e1, e2, hks]
 exact last_kid (by simpa using h1) hP.flat
theorem near_del (hk : Tr.Kids o (h + 1) g) (hs : Sorted (flat (h + 1) g)) (hC : Bel C key) (hD : Abv D key) (hp : g.ps = C ++ D) (hks : g.ks = A ++ k :: B) (ha : A.length = C.length) (hP : DelP o h k key k') (e1 : g1.ps = g.ps) (e2 : g1.ks = A ++ k' :: B) :
  Near o h g1 A k' B ∧ flat (h + 1) g1 = del key (flat (h + 1) g) ∧ (get key (flat (h + 1) g) = none → KidsL o (h + 1) g1.ks) := by
 have hgk := (get_kid_ hk hs hC hD hp hks ha).1
 obtain ⟨h1, h2⟩ := (kids_iff o (h + 1) g).1 hk
 have h1 : g.ks.length = g.ps.length + 1 := h1
 rw [hks, hp] at h1
 rw [hks] at h2
 have hbl : B.length = D.length := by simp at h1; omega
 obtain ⟨k1, ⟨k2, k3, k4⟩, k5⟩ := kidsL_mid.1 h2
 refine ⟨⟨e2, by rw [e1, e2, hp]; simpa using h1, k1, hP.kids, by have := hP.lo; omega, by have := hP.hi; omega, k5⟩, ?_, fun hn => by rw [e2]; have := hP.no (hgk.symm.trans hn); exact kidsL_mid.2 ⟨k1, ⟨hP.kids, by omega, by omega⟩, k5⟩⟩
 rw [flat_fl, hp, hks] at hs
 rw [flat_fl, flat_fl, e1, e2, hp, hks]
 exact del_kid ha hbl hs hC hD hP.flat
theorem near_swap (hk : Tr.Kids o (h + 1) g) (hs : Sorted (flat (h + 1) g)) (hp : g.ps = C ++ (key, v) :: D) (hks : g.ks = A ++ k :: B) (ha : A.length = C.length) (hP : LastP o h k z k') (e1 : g1.ps = C ++ z :: D) (e2 : g1.ks = A ++ k' :: B) :
  Near o h g1 A k' B ∧ flat (h + 1) g1 = del key (flat (h + 1) g) ∧ get key (flat (h + 1) g) = some v := by
 obtain ⟨h1, h2⟩ := (kids_iff o (h + 1) g).1 hk
 have h1 : g.ks.length = g.ps.length + 1 := h1
 have hnode := (put_node (h := h + 1) (ks := g.ks) (u := v) (by rw [← hp]; exact h1) (by rw [← hp, ← flat_fl]; exact hs)).2
 rw [hks, hp] at h1
 rw [hks] at h2
 have hbl : B.length = D.length + 1 := by simp at h1; omega
 obtain ⟨k1, ⟨k2, k3, k4⟩, k5⟩ := kidsL_mid.1 h2
 refine ⟨⟨e2, by rw [e1, e2]; simpa using h1, k1, hP.kids, by have := hP.lo; omega, by have := hP.hi; omega, k5⟩, ?_, by rw [flat_fl, hp]; exact hnode⟩
 rw [flat_fl, hp, hks] at hs
 rw [flat_fl, flat_fl, e1, e2, hp, hks]
 exact del_node ha hbl hs hP.flat
theorem MendP.last (hm : MendP o h g1 g') (h1 : Tr.flat (h + 1) g = Tr.flat (h + 1) g1 ++ [z]) (hb : g1.b = g.b) (hp : g1.ps = g.ps) : LastP o (h + 1) g z g' :=
 ⟨hm.b.trans hb, hm.kids, by rw [hm.flat]; exact h1, by rw [← hp]; exact hm.lo, by rw [← hp]; exact hm.hi⟩
theorem MendP.del (hm : MendP o h g1 g') (h1 : Tr.flat (h + 1) g1 = Tr.del key (Tr.flat (h + 1) g)) (hb : g1.b = g.b) (hp : g1.ps.length = g.ps.length) (hno : Tr.get key (Tr.flat (h + 1) g) = none → KidsL o (h + 1) g1.ks) : DelP o (h + 1) g key g' :=
 ⟨hm.b.trans hb, hm.kids, by rw [hm.flat]; exact h1, by rw [← hp]; exact hm.lo, by rw [← hp]; exact hm.hi, fun e => (hm.fine (hno e)).trans hp⟩
end Tr
end Go.Proofs.YtecnijnmgdfdhaaGreat

namespace Go.Proofs.YtecnijnmgdfdhaaGreat
namespace Tr
theorem weave_len : ∀ (L : List (List Pr)) (ps : List Pr), L.length = ps.length + 1 → (weave L ps).length = ps.length + (L.map List.length).sum
 | [], ps, h => by simp at h
 | [a], [], _ => by simp [weave]
 | [a], p :: ps, h => by simp at h
 | a :: b :: L, [], h => by simp at h
 | a :: b :: L, p :: ps, h => by
  have ih := weave_len (b :: L) ps (by simpa using h)
  simp only [weave, List.length_append, List.length_cons, List.map_cons, List.sum_cons] at ih ⊢
  omega
end Tr
end Go.Proofs.YtecnijnmgdfdhaaGreat

namespace Go.Proofs.YtecnijnmgdfdhaaGreat
namespace Tr
theorem flat_ge {o : Nat} : ∀ {h : Nat} {g : G}, Kids o h g → g.ps.length ≤ (flat h g).length
 | 0, g, _ => Nat.le_refl _
 | h + 1, g, hk => by
  have h2 : (flat (h + 1) g).length = g.ps.length + ((g.ks.map (flat h)).map List.length).sum := weave_len _ _ (by rw [List.length_map]; exact hk.1)
  omega
theorem flat_sub {o h : Nat} {g : G} (hk : Kids o (h + 1) g) : (flat (h + 1) g).length = g.ps.length + (g.ks.map fun k => (flat h k).length).sum := by
 have h2 : (flat (h + 1) g).length = g.ps.length + ((g.ks.map (flat h)).map List.length).sum := weave_len _ _ (by rw [List.length_map]; exact hk.1)
 rw [List.map_map] at h2
 exact h2
theorem sum_ge : ∀ {L : List Nat}, (∀ n ∈ L, 1 ≤ n) → L.length ≤ L.sum
 | [], _ => Nat.le_refl _
 | a :: L, h => by
  have := sum_ge (L := L) (fun n hn => h n (List.mem_cons_of_mem _ hn))
  have := h a (by simp)
  rw [List.length_cons, List.sum_cons]; omega
theorem le_sum : ∀ {L : List Nat} {n : Nat}, n ∈ L → n ≤ L.sum
 | a :: L, n, h => by
  rw [List.sum_cons]
  rcases List.mem_cons.1 h with rfl | h
  ·omega
  ·have := le_sum h; omega
def Lv (o N : Nat) : Nat → List G → Prop
 | 0, gs => gs = []
 | k + 1, gs => gs ≠ [] ∧ (∀ g ∈ gs, Kids o k g) ∧ (gs.map fun g => (flat k g).length).sum ≤ N ∧ gs.length ≤ N + 1
theorem Lv.start {o h N : Nat} {g : G} (hk : Kids o h g) (hN : (flat h g).length ≤ N) : Lv o N (h + 1) [g] :=
 ⟨by simp, fun x hx => by rw [List.mem_singleton] at hx; subst hx; exact hk, by simpa using hN, by simp⟩
theorem sub_sum {o h : Nat} : ∀ {gs : List G}, (∀ g ∈ gs, Kids o (h + 1) g) → ((gs.flatMap G.ks).map fun g => (flat h g).length).sum ≤ (gs.map fun g => (flat (h + 1) g).length).sum
 | [], _ => Nat.le_refl _
 | g :: gs, hk => by
  have ih := sub_sum (gs := gs) (fun x hx => hk x (List.mem_cons_of_mem _ hx))
  have := flat_sub (hk g (by simp))
  rw [List.flatMap_cons, List.map_append, List.sum_append, List.map_cons, List.sum_cons]
  omega
theorem Lv.step {o N k : Nat} (ho : 2 ≤ o) {gs : List G} (h : Lv o N (k + 1) gs) : Lv o N k (gs.flatMap G.ks) := by
 obtain ⟨h1, h2, h3, h4⟩ := h
 cases k with
 | zero =>
  show gs.flatMap G.ks = []
  rw [List.flatMap_eq_nil_iff]
  exact h2
 | succ k =>
  have hs := sub_sum h2
  have hsub : ∀ x ∈ gs.flatMap G.ks, Kids o k x ∧ o ≤ x.ps.length + 1 := fun x hx => by
   obtain ⟨g, hg, hxg⟩ := List.mem_flatMap.1 hx
   have := (h2 g hg).2 x hxg
   exact ⟨this.1, this.2.1⟩
  refine ⟨?_, fun x hx => (hsub x hx).1, by omega, ?_⟩
  ·match gs, h1 with
   | g :: gs, _ =>
    have := (h2 g (by simp)).1
    intro he
    rw [List.flatMap_cons, List.append_eq_nil_iff] at he
    rw [he.1] at this
    simp at this
  ·have := sum_ge (L := (gs.flatMap G.ks).map fun g => (flat k g).length) (fun n hn => by
    obtain ⟨x, hx, rfl⟩ := List.mem_map.1 hn
    have := flat_ge (hsub x hx).1
    have := (hsub x hx).2
    omega)
   rw [List.length_map] at this
   omega
theorem Lv.node {o N k : Nat} {gs : List G} (h : Lv o N (k + 1) gs) {g : G} (hg : g ∈ gs) : Kids o k g ∧ g.ps.length ≤ N := by
 obtain ⟨_, h2, h3, _⟩ := h
 have h4 : (flat k g).length ≤ (gs.map fun g => (flat k g).length).sum := le_sum (List.mem_map.2 ⟨g, hg, rfl⟩)
 have := flat_ge (h2 g hg)
 exact ⟨h2 g hg, by omega⟩
theorem Lv.part {o N k j : Nat} (ho : 2 ≤ o) {gs : List G} (h : Lv o N (k + 1) gs) : ((gs.take j).flatMap G.ks).length ≤ N + 1 := by
 have hle : ((gs.take j).flatMap G.ks).length ≤ (gs.flatMap G.ks).length := by
  conv => rhs; rw [← List.take_append_drop j gs]
  rw [List.flatMap_append, List.length_append]; omega
 have h2 := h.step ho
 cases k with
 | zero =>
  have h2 : gs.flatMap G.ks = [] := h2
  have h3 : (gs.flatMap G.ks).length = 0 := by rw [h2]; rfl
  omega
 | succ k => exact Nat.le_trans hle h2.2.2.2
end Tr
end Go.Proofs.YtecnijnmgdfdhaaGreat

namespace Go.Proofs.YtecnijnmgdfdhaaGreat
namespace Tr
open Ky (less)
theorem less_nul (q k : Str) : less q (k ++ [0]) = (less q k || q == k) := by
 induction q generalizing k with
 | nil =>
  cases k with
  | nil => rfl
  | cons y k => rfl
 | cons x q ih =>
  cases k with
  | nil =>
   cases q with
   | nil =>
    have h0 : ¬ x.toNat < 0 := by omega
    simp [Ky.less, Go.Op.bytesLess, UInt8.lt_iff_toNat_lt]
   | cons z q => simp [Ky.less, Go.Op.bytesLess, UInt8.lt_iff_toNat_lt]
  | cons y k =>
   have ih' := ih k
   simp only [Ky.less, List.cons_append, Go.Op.bytesLess] at ih' ⊢
   rw [ih']
   by_cases hxy : x = y
   ·subst hxy; simp
   ·have hb : (x == y) = false := by simpa using hxy
    simp [hb]
theorem get_of {L : List Pr} (hs : Sorted L) {p : Pr} (hp : p ∈ L) : get p.1 L = some p.2 := by
 induction L with
 | nil => cases hp
 | cons q L ih =>
  rw [get]
  rcases List.mem_cons.1 hp with rfl | h
  ·rw [if_neg (by rw [less_irr]; decide), if_pos rfl]
  ·rw [if_pos ((List.pairwise_cons.1 hs).1 p h)]
   exact ih (List.pairwise_cons.1 hs).2 h
end Tr
end Go.Proofs.YtecnijnmgdfdhaaGreat

namespace Go.Proofs.YtecnijnmgdfdhaaGreat
namespace Tr
open Ky (less)
def inR (s t : Str) (p : Pr) : Bool := !less p.1 s && (decide (t = []) || less p.1 t)
def rng (s t : Str) (L : List Pr) : List Pr := L.filter (inR s t)
def stopAt (t : Str) (R : Option Pr) : Bool := match R with | none => true | some q => decide (t ≠ []) && !less q.1 t
theorem rng_len (s t : Str) (L : List Pr) : (rng s t L).length ≤ L.length := List.length_filter_le _ _
theorem rng_mem {s t : Str} {L : List Pr} {p : Pr} : p ∈ rng s t L ↔ p ∈ L ∧ inR s t p = true := List.mem_filter
theorem rng_bel {s t : Str} {A : List Pr} (h : Bel A s) : rng s t A = [] := by
 unfold rng
 rw [List.filter_eq_nil_iff]
 intro p hp
 simp [inR, h p hp]
theorem rng_append (s t : Str) (A B : List Pr) : rng s t (A ++ B) = rng s t A ++ rng s t B := List.filter_append A B
theorem part_at (k : Str) {L : List Pr} (h : Sorted L) : ∃ A B, L = A ++ B ∧ Bel A k ∧ (∀ p ∈ B, less p.1 k = false) ∧ ceil k L = B.head? := by
 obtain ⟨A, B, rfl, hl, hA, hB⟩ := split_at k L h
 refine ⟨A, B, rfl, hA, fun p hp => ?_, ?_⟩
 ·rcases hB with ⟨v, B', rfl, hB'⟩ | hB
  ·rcases List.mem_cons.1 hp with rfl | hp
   ·exact less_irr k
   ·exact less_asymm (hB' p hp)
  ·exact less_asymm (hB p hp)
 ·rw [ceil_left hA]
  rcases hB with ⟨v, B', rfl, hB'⟩ | hB
  ·simp [ceil, less_irr]
  ·exact ceil_abv hB
theorem rng_stop {s t : Str} {L : List Pr} (h : Sorted L) (hs : stopAt t (ceil s L) = true) : rng s t L = [] := by
 obtain ⟨A, B, rfl, hA, hB, hc⟩ := part_at s h
 rw [rng_append, rng_bel hA, List.nil_append]
 rw [hc] at hs
 cases B with
 | nil => rfl
 | cons q B =>
  have hq : t ≠ [] ∧ less q.1 t = false := by simpa [stopAt] using hs
  unfold rng
  rw [List.filter_eq_nil_iff]
  intro p hp
  have hpt : less p.1 t = false := by
   rcases List.mem_cons.1 hp with rfl | hp
   ·exact hq.2
   ·cases hpt : less p.1 t with
    | false => rfl
    | true =>
     have := less_trans (h.abv p hp) hpt
     rw [hq.2] at this; cases this
  simp [inR, hq.1, hpt]
theorem rng_go {s t : Str} {L : List Pr} (h : Sorted L) {q : Pr} (hc : ceil s L = some q) (hs : stopAt t (some q) = false) : rng s t L = q :: rng (q.1 ++ [0]) t L := by
 obtain ⟨A, B, rfl, hA, hB, hc'⟩ := part_at s h
 rw [hc'] at hc
 cases B with
 | nil => cases hc
 | cons q' B =>
  cases hc
  have hqt : (decide (t = []) || less q.1 t) = true := by
   by_cases ht : t = []
   ·simp [ht]
   ·have : less q.1 t = true := by simpa [stopAt, ht] using hs
    simp [this]
  have hqs : less q.1 s = false := hB q (by simp)
  have hA2 : Bel (A ++ [q]) (q.1 ++ [0]) := by
   intro p hp
   rw [less_nul]
   rcases List.mem_append.1 hp with hp | hp
   ·rw [h.bel p hp]; rfl
   ·rw [List.mem_singleton] at hp; subst hp; simp
  rw [rng_append, rng_bel hA, List.nil_append]
  rw [show A ++ q :: B = (A ++ [q]) ++ B by simp, rng_append (q.1 ++ [0]), rng_bel hA2, List.nil_append]
  unfold rng
  rw [List.filter_cons, if_pos (by unfold inR; rw [hqs, hqt]; rfl)]
  congr 1
  refine List.filter_congr fun p hp => ?_
  have h1 : less p.1 s = false := hB p (by simp [hp])
  have h2 : less p.1 (q.1 ++ [0]) = false := by
   rw [less_nul, less_asymm (h.abv p hp)]
   have := less_ne (h.abv p hp)
   simpa using fun e : p.1 = q.1 => this e.symm
  unfold inR
  rw [h1, h2]
theorem rng_step {s t : Str} {L : List Pr} (h : Sorted L) : (stopAt t (ceil s L) = true ∧ rng s t L = []) ∨ ∃ q, ceil s L = some q ∧ stopAt t (some q) = false ∧ rng s t L = q :: rng (q.1 ++ [0]) t L := by
 cases hc : ceil s L with
 | none => exact .inl ⟨rfl, rng_stop h (by rw [hc]; rfl)⟩
 | some q =>
  cases hs : stopAt t (some q) with
  | true => exact .inl ⟨rfl, rng_stop h (by rw [hc]; exact hs)⟩
  | false => exact .inr ⟨q, rfl, hs, rng_go h hc hs⟩
end Tr
end Go.Proofs.YtecnijnmgdfdhaaGreat

namespace Go.Proofs.YtecnijnmgdfdhaaGreat
namespace Tr
open Ky (less)
theorem get_ins (k v : Str) (L : List Pr) : get k (ins (k, v) L) = some v := by
 induction L with
 | nil => simp [ins, get, less_irr]
 | cons q L ih =>
  rw [ins]
  by_cases h : less q.1 k = true
  ·rw [if_pos h, get, if_pos h]; exact ih
  ·rw [if_neg h]
   by_cases e : q.1 = k
   ·rw [if_pos e]; simp [get, less_irr]
   ·rw [if_neg e]; simp [get, less_irr]
end Tr
end Go.Proofs.YtecnijnmgdfdhaaGreat

namespace Go.Proofs.YtecnijnmgdfdhaaGreat
namespace Tr
def LikeL (R : G → G → Prop) : List G → List G → Prop
 | [], [] => True
 | a :: A, b :: B => R a b ∧ LikeL R A B
 | _, _ => False
def Like : Nat → G → G → Prop
 | 0, g, g' => g'.ps = g.ps ∧ g.ks = [] ∧ g'.ks = []
 | h + 1, g, g' => g'.ps = g.ps ∧ LikeL (Like h) g.ks g'.ks
theorem LikeL.snoc {R : G → G → Prop} {a b : G} (hab : R a b) : ∀ {A B : List G}, LikeL R A B → LikeL R (A ++ [a]) (B ++ [b])
 | [], [], _ => ⟨hab, trivial⟩
 | _ :: _, _ :: _, h => ⟨h.1, LikeL.snoc hab h.2⟩
 | [], _ :: _, h => h.elim
 | _ :: _, [], h => h.elim
theorem LikeL.append {R : G → G → Prop} {C D : List G} (hcd : LikeL R C D) : ∀ {A B : List G}, LikeL R A B → LikeL R (A ++ C) (B ++ D)
 | [], [], _ => hcd
 | _ :: _, _ :: _, h => ⟨h.1, LikeL.append hcd h.2⟩
 | [], _ :: _, h => h.elim
 | _ :: _, [], h => h.elim
theorem LikeL.len {R : G → G → Prop} : ∀ {A B : List G}, LikeL R A B → B.length = A.length
 | [], [], _ => rfl
 | _ :: _, _ :: _, h => by rw [List.length_cons, List.length_cons, LikeL.len h.2]
 | [], _ :: _, h => h.elim
 | _ :: _, [], h => h.elim
theorem LikeL.map {α : Type} {R : G → G → Prop} {f : G → α} (hf : ∀ a b, R a b → f b = f a) : ∀ {A B : List G}, LikeL R A B → B.map f = A.map f
 | [], [], _ => rfl
 | a :: _, b :: _, h => by rw [List.map_cons, List.map_cons, hf a b h.1, LikeL.map hf h.2]
 | [], _ :: _, h => h.elim
 | _ :: _, [], h => h.elim
theorem LikeL.all {R : G → G → Prop} {p q : G → Prop} (hf : ∀ a b, R a b → p a → q b) : ∀ {A B : List G}, LikeL R A B → (∀ a ∈ A, p a) → ∀ b ∈ B, q b
 | [], [], _, _ => fun _ h => by cases h
 | a :: _, b :: _, h, hp => fun x hx => by
  rcases List.mem_cons.1 hx with rfl | hx
  ·exact hf a x h.1 (hp a (by simp))
  ·exact LikeL.all hf h.2 (fun a ha => hp a (List.mem_cons_of_mem _ ha)) x hx
 | [], _ :: _, h, _ => h.elim
 | _ :: _, [], h, _ => h.elim
theorem Like.ps {h : Nat} {g g' : G} (hl : Like h g g') : g'.ps = g.ps := by cases h <;> exact hl.1
theorem Like.flat : ∀ {h : Nat} {g g' : G}, Like h g g' → Tr.flat h g' = Tr.flat h g
 | 0, _, _, hl => hl.1
 | h + 1, g, g', hl => by
  show weave (g'.ks.map (Tr.flat h)) g'.ps = weave (g.ks.map (Tr.flat h)) g.ps
  rw [hl.1, hl.2.map (fun a b hab => Like.flat hab)]
theorem Like.kids {o : Nat} : ∀ {h : Nat} {g g' : G}, Like h g g' → Tr.Kids o h g → Tr.Kids o h g'
 | 0, _, _, hl, _ => hl.2.2
 | h + 1, g, g', hl, hk => by
  refine ⟨by rw [hl.2.len, hl.1, hk.1], hl.2.all (fun a b hab ha => ?_) hk.2⟩
  exact ⟨Like.kids hab ha.1, by rw [hab.ps]; exact ha.2.1, by rw [hab.ps]; exact ha.2.2⟩
theorem LikeL.next {h : Nat} : ∀ {A B : List G}, LikeL (Like (h + 1)) A B → LikeL (Like h) (A.flatMap G.ks) (B.flatMap G.ks)
 | [], [], _ => trivial
 | _ :: _, _ :: _, hl => by
  rw [List.flatMap_cons, List.flatMap_cons]
  exact LikeL.append (LikeL.next hl.2) hl.1.2
 | [], _ :: _, h => h.elim
 | _ :: _, [], h => h.elim
end Tr
end Go.Proofs.YtecnijnmgdfdhaaGreat
