/- Joined: Law45. -/
import Derived.Test.YtbempjkkohjnbaaYLaw32
import Derived.Test.YtbempjkkohjnbaaYLaw43
/- TreeAny, the plain law: keys that are put in whatever order. -/
namespace Go.Proofs.Ytbempjkkohjnbaa
open Go.RowKit Tr
open Ky (less)
/-- All keys, with one value, put one by one. -/
def insAll (xs : List Str) : List Pr := xs.foldl (fun L k => ins (k, [118]) L) []
theorem insAll_snoc (xs : List Str) (k : Str) : insAll (xs ++ [k]) = ins (k, [118]) (insAll xs) := by unfold insAll; rw [List.foldl_append]; rfl
theorem ins_self (x : Pr) (L : List Pr) : x ∈ ins x L := by
  induction L with
  | nil => simp [ins]
  | cons y L ih =>
    unfold ins
    split
    · exact List.mem_cons_of_mem _ ih
    · split <;> simp
theorem ins_rest {x p : Pr} {L : List Pr} (h : p ∈ L) (hk : p.1 ≠ x.1) : p ∈ ins x L := by
  induction L with
  | nil => cases h
  | cons y L ih =>
    unfold ins
    split
    · rcases List.mem_cons.1 h with rfl | h
      · exact List.mem_cons_self ..
      · exact List.mem_cons_of_mem _ (ih h)
    · split
      next he =>
        rcases List.mem_cons.1 h with rfl | h
        · exact absurd he hk
        · exact List.mem_cons_of_mem _ h
      next => exact List.mem_cons_of_mem _ h
theorem insAll_all (xs : List Str) : Sorted (insAll xs) ∧ ∀ p, p ∈ insAll xs ↔ p.2 = [118] ∧ p.1 ∈ xs := by
  have key : ∀ (ys : List Str), Sorted (insAll ys.reverse) ∧ ∀ p, p ∈ insAll ys.reverse ↔ p.2 = [118] ∧ p.1 ∈ ys.reverse := by
    intro ys
    induction ys with
    | nil => exact ⟨List.Pairwise.nil, fun p => by simp [insAll]⟩
    | cons k ys ih =>
      rw [List.reverse_cons, insAll_snoc]
      refine ⟨ih.1.ins _, fun p => ⟨fun h => ?_, fun ⟨h1, h2⟩ => ?_⟩⟩
      · rcases ins_mem h with rfl | h
        · exact ⟨rfl, by simp⟩
        · have := (ih.2 p).1 h
          exact ⟨this.1, List.mem_append_left _ this.2⟩
      · by_cases e : p.1 = k
        · have : p = (k, [118]) := Prod.ext e h1
          rw [this]
          exact ins_self _ _
        · refine ins_rest ((ih.2 p).2 ⟨h1, ?_⟩) e
          rcases List.mem_append.1 h2 with h2 | h2
          · exact h2
          · exact absurd (by simpa using h2) e
  have := key xs.reverse
  rwa [List.reverse_reverse] at this
theorem insAll_get {xs : List Str} {k : Str} (h : k ∉ xs) : get k (insAll xs) = none := by
  cases hg : get k (insAll xs) with
  | none => rfl
  | some v => exact absurd (((insAll_all xs).2 (k, v)).1 (List.mem_of_getElem? (get_at hg))).2 h
theorem sorted_ext : ∀ {L1 L2 : List Pr}, Sorted L1 → Sorted L2 → (∀ p, p ∈ L1 ↔ p ∈ L2) → L1 = L2
  | [], [], _, _, _ => rfl
  | [], q :: L2, _, _, h => absurd ((h q).2 (by simp)) (by simp)
  | p :: L1, [], _, _, h => absurd ((h p).1 (by simp)) (by simp)
  | p :: L1, q :: L2, h1, h2, h => by
    have h1' := List.pairwise_cons.1 h1
    have h2' := List.pairwise_cons.1 h2
    have e : p = q := by
      rcases List.mem_cons.1 ((h p).1 (by simp)) with e | e
      · exact e
      · rcases List.mem_cons.1 ((h q).2 (by simp)) with e2 | e2
        · exact e2.symm
        · have a1 := h2'.1 p e
          have a2 := h1'.1 q e2
          rw [Ky.less_asymm a1] at a2
          cases a2
    subst e
    have hself : ∀ {L : List Pr}, (∀ a' ∈ L, less p.1 a'.1 = true) → p ∉ L := fun hl hp => by
      have := hl p hp
      rw [Ky.less_self] at this
      cases this
    rw [sorted_ext h1'.2 h2'.2 (fun x => ⟨fun hx => ?_, fun hx => ?_⟩)]
    · rcases List.mem_cons.1 ((h x).1 (List.mem_cons_of_mem _ hx)) with e | e
      · subst e; exact absurd hx (hself h1'.1)
      · exact e
    · rcases List.mem_cons.1 ((h x).2 (List.mem_cons_of_mem _ hx)) with e | e
      · subst e; exact absurd hx (hself h2'.1)
      · exact e
theorem insAll_len : ∀ {xs : List Str}, xs.Nodup → (insAll xs).length = xs.length := by
  have key : ∀ (ys : List Str), ys.reverse.Nodup → (insAll ys.reverse).length = ys.reverse.length := by
    intro ys
    induction ys with
    | nil => intro _; rfl
    | cons k ys ih =>
      intro h
      rw [List.reverse_cons] at h ⊢
      have h' := List.nodup_append.1 h
      have hk : k ∉ ys.reverse := fun hk => h'.2.2 k hk k (by simp) rfl
      rw [insAll_snoc, ins_len, if_pos (insAll_get hk), ih h'.1, List.length_append]
      rfl
  intro xs h
  have := key xs.reverse (by rwa [List.reverse_reverse])
  rwa [List.reverse_reverse] at this
/-- Going round. -/
def rot (l : List Str) (m : Nat) : List Str := l.drop m ++ l.take m
theorem rot_perm (l : List Str) (m : Nat) : (rot l m).Perm l := by
  have h : (l.drop m ++ l.take m).Perm (l.take m ++ l.drop m) := List.perm_append_comm
  rwa [List.take_append_drop] at h
theorem rot_at {l : List Str} {m i : Nat} (hm : m < l.length) (hi : i < l.length) : (rot l m)[i]? = l[(m + i) % l.length]? := by
  unfold rot
  by_cases h : i < (l.drop m).length
  · rw [List.getElem?_append_left h, List.getElem?_drop]
    rw [List.length_drop] at h
    rw [Nat.mod_eq_of_lt (by omega)]
  · rw [List.getElem?_append_right (by omega), List.length_drop]
    rw [List.length_drop] at h
    rw [List.getElem?_take]
    rw [Nat.mod_eq_sub_mod (by omega), Nat.mod_eq_of_lt (by omega)]
    rw [if_pos (by omega)]
    congr 1
    omega
theorem rot_all {l : List Str} (m : Nat) : insAll (rot l m) = insAll l :=
  sorted_ext (insAll_all _).1 (insAll_all _).1 (fun p => by
    rw [(insAll_all _).2, (insAll_all _).2]
    exact ⟨fun h => ⟨h.1, (rot_perm l m).mem_iff.1 h.2⟩, fun h => ⟨h.1, (rot_perm l m).mem_iff.2 h.2⟩⟩)
theorem nodup_fresh {xs : List Str} (h : xs.Nodup) {i : Nat} {x : Str} (hx : xs[i]? = some x) : x ∉ xs.take i := by
  obtain ⟨hi, rfl⟩ := List.getElem?_eq_some_iff.1 hx
  intro hm
  obtain ⟨j, hj, e⟩ := List.mem_iff_getElem.1 hm
  rw [List.length_take] at hj
  rw [List.getElem_take] at e
  have := (List.pairwise_iff_getElem.1 h) j i (by omega) hi (by omega)
  exact this e
theorem take_snoc {α : Type} {xs : List α} {i : Nat} {x : α} (hx : xs[i]? = some x) : xs.take (i + 1) = xs.take i ++ [x] := by rw [List.take_add_one, hx]; rfl
theorem tmod_mm (v : Int) (n : Nat) (hn : 1 ≤ n) : ∃ (r1 : Int) (r2 mm : Nat), v.tmod (n : Int) = r1 ∧ -(n : Int) < r1 ∧ r1 < n ∧ r1 + (n : Int) = (r2 : Int) ∧ r2 < 2 * n ∧ (r2 : Int).tmod (n : Int) = (mm : Int) ∧ mm < n := by
  have h0 : -(n : Int) < v.tmod (n : Int) ∧ v.tmod (n : Int) < n := by
    have h1 := Int.emod_nonneg v (show (n : Int) ≠ 0 by omega)
    have h2 := Int.emod_lt_of_pos v (show (0 : Int) < (n : Int) by omega)
    rw [Int.tmod_eq_emod]
    split
    · omega
    · simp; omega
  refine ⟨v.tmod n, (v.tmod n + n).toNat, (v.tmod n + n).toNat % n, rfl, h0.1, h0.2, by omega, by omega, ?_, Nat.mod_lt _ (by omega)⟩
  rw [Int.tmod_eq_emod_of_nonneg (by omega)]
  rfl
/-- What a call of Put with a new key answers. -/
theorem own_putNew {B b o : Nat} {w0 w : World} {X : List Rs} {L : List Pr} {k : Str} (h : Own B w0 (TreeR b o L :: X) w) (hn : L.length ≤ 100000) (hk : okTk k = true) (hg : get k L = none) :
    Calls Try.prog 19 #[ptrV b, .string ⟨k.toArray⟩, .string ⟨#[118]⟩] w fun e V => e = .returned (.tuple #[.string ⟨#[]⟩, .bool false, .int .i64 0]) ∧ Own B w0 (TreeR b o (ins (k, [118]) L) :: X) V := by
  refine (own_put k [118] h hn).mono ?_
  rintro e V ⟨rfl, h2⟩
  have e1 : putO k [118] L = [] := by unfold putO oldS; rw [hk, hg]; rfl
  have e2 : putI k [118] L = false := by unfold putI; rw [hk, hg]; rfl
  have e3 : putC k [118] = 0 := by unfold putC; rw [hk]; rfl
  have e4 : putL k [118] L = ins (k, [118]) L := by unfold putL; rw [hk]; rfl
  rw [e1, e2, e3]
  rw [e4] at h2
  exact ⟨rfl, h2⟩
theorem tk_len {k : Str} (h : okTk k = true) : 1 ≤ k.length ∧ k.length ≤ 64 := of_decide_eq_true h
theorem tk_of {k : Str} (h : 1 ≤ k.length ∧ k.length ≤ 64) : okTk k = true := decide_eq_true h
end Go.Proofs.Ytbempjkkohjnbaa
