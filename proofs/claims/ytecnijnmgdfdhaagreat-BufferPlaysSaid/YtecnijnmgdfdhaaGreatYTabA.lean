/- Joined: Tab1, Tab2, Tab3, Tab4. -/
import Derived.Test.YtecnijnmgdfdhaaGreatYRwB
import Derived.Test.YtecnijnmgdfdhaaGreatYKeys
import Derived.Test.YtecnijnmgdfdhaaGreatYTr
import Derived.Test.YtecnijnmgdfdhaaGreatYSep
import Derived.Test.YtecnijnmgdfdhaaGreatYTreeG
import Derived.Test.YtecnijnmgdfdhaaGreatYTreeF
import Derived.Test.YtecnijnmgdfdhaaGreatYCur1
namespace Go.Proofs.YtecnijnmgdfdhaaGreat
namespace Tb
open Tr
open Ky (less)
abbrev R4 := Int × Int × Int × Int
def col (r : R4) : Nat → Int := Rw.rowF r.1 r.2.1 r.2.2.1 r.2.2.2
def In4 (r : R4) : Prop := Rw.InR (col r)
def encT (r : R4) : Str := Rw.encR (col r) 4
def decT (s : Str) : R4 := match Rw.Fd.row s with
 | some l => (l.getD 0 0, l.getD 1 0, l.getD 2 0, l.getD 3 0)
 | none => (0, 0, 0, 0)
theorem decT_encT {r : R4} (h : In4 r) : decT (encT r) = r := by
 obtain ⟨l, h1, h2⟩ := Rw.row_encR h
 unfold decT encT
 rw [h1]
 simp only [h2 0 (by omega), h2 1 (by omega), h2 2 (by omega), h2 3 (by omega)]
 rfl
theorem encT_len {r : R4} (h : In4 r) : (encT r).length ≤ 40 := Rw.encR_len h 4
def OkT (L : List Pr) : Prop := ∀ p ∈ L, Ks.okKey p.1 = true ∧ ∃ r, In4 r ∧ p.2 = encT r
theorem OkT.nil : OkT [] := fun _ h => by cases h
theorem OkT.ins {L : List Pr} (h : OkT L) {k : Str} (hk : Ks.okKey k = true) {r : R4} (hr : In4 r) : OkT (ins (k, encT r) L) := fun p hp => by
 rcases ins_mem hp with rfl | hp
 ·exact ⟨hk, r, hr, rfl⟩
 ·exact h p hp
theorem OkT.del {L : List Pr} (h : OkT L) (k : Str) : OkT (del k L) := fun p hp => h p (del_mem hp)
theorem OkT.col {L : List Pr} (h : OkT L) {p : Pr} (hp : p ∈ L) (c : Nat) : Ky.In (col (decT p.2) c) := by
 obtain ⟨_, r, hr, e⟩ := h p hp
 rw [e, decT_encT hr]
 exact hr c
theorem OkT.in4 {L : List Pr} (h : OkT L) {p : Pr} (hp : p ∈ L) : In4 (decT p.2) ∧ encT (decT p.2) = p.2 := by
 obtain ⟨_, r, hr, e⟩ := h p hp
 rw [e, decT_encT hr]
 exact ⟨hr, rfl⟩
theorem OkT.got {L : List Pr} (h : OkT L) {k s : Str} (hg : get k L = some s) (hs : Sorted L) : In4 (decT s) ∧ encT (decT s) = s := by
 have hm : (k, s) ∈ L := by
  have h1 := get_ceil k L
  rw [hg, ceil_place] at h1
  cases hq : L[pl k L]? with
  | none => rw [hq] at h1; cases h1
  | some q =>
   rw [hq] at h1
   simp only at h1
   split at h1
   ·next e => cases h1; rw [← e]; exact List.mem_of_getElem? hq
   ·cases h1
 exact h.in4 hm
/-! ### Sorted pairs: what is in them -/
theorem sorted_uniq {L : List Pr} (h : Sorted L) {p q : Pr} (hp : p ∈ L) (hq : q ∈ L) (e : p.1 = q.1) : p = q := by
 obtain ⟨i, hi, rfl⟩ := List.mem_iff_getElem.1 hp
 obtain ⟨j, hj, rfl⟩ := List.mem_iff_getElem.1 hq
 rcases Nat.lt_trichotomy i j with h1 | h1 | h1
 ·have := (List.pairwise_iff_getElem.1 h) i j hi hj h1
  rw [e, Ky.less_self] at this
  cases this
 ·subst h1; rfl
 ·have := (List.pairwise_iff_getElem.1 h) j i hj hi h1
  rw [e, Ky.less_self] at this
  cases this
theorem ins_self (x : Pr) (L : List Pr) : x ∈ ins x L := by
 induction L with
 | nil => simp [ins]
 | cons y L ih =>
  unfold ins
  split
  ·exact List.mem_cons_of_mem _ ih
  ·split <;> simp
theorem ins_rest {x p : Pr} {L : List Pr} (h : p ∈ L) (hk : p.1 ≠ x.1) : p ∈ ins x L := by
 induction L with
 | nil => cases h
 | cons y L ih =>
  unfold ins
  split
  ·rcases List.mem_cons.1 h with rfl | h
   ·exact List.mem_cons_self ..
   ·exact List.mem_cons_of_mem _ (ih h)
  ·split
   next he =>
    rcases List.mem_cons.1 h with rfl | h
    ·exact absurd he hk
    ·exact List.mem_cons_of_mem _ h
   next => exact List.mem_cons_of_mem _ h
theorem mem_ins {x q : Pr} {L : List Pr} (h : Sorted L) : q ∈ ins x L ↔ q = x ∨ (q ∈ L ∧ q.1 ≠ x.1) := by
 constructor
 ·intro hq
  rcases ins_mem hq with e | hm
  ·exact .inl e
  ·by_cases e : q.1 = x.1
   ·exact .inl (sorted_uniq (h.ins x) hq (ins_self x L) e)
   ·exact .inr ⟨hm, e⟩
 ·rintro (rfl | ⟨h1, h2⟩)
  ·exact ins_self _ _
  ·exact ins_rest h1 h2
theorem del_rest {k : Str} {p : Pr} {L : List Pr} (h : p ∈ L) (hk : p.1 ≠ k) : p ∈ del k L := by
 induction L with
 | nil => cases h
 | cons y L ih =>
  unfold del
  split
  ·rcases List.mem_cons.1 h with rfl | h
   ·exact List.mem_cons_self ..
   ·exact List.mem_cons_of_mem _ (ih h)
  ·split
   next he =>
    rcases List.mem_cons.1 h with rfl | h
    ·exact absurd he hk
    ·exact h
   next => exact h
theorem del_out {k : Str} {L : List Pr} (h : Sorted L) : ∀ p ∈ del k L, p.1 ≠ k := by
 induction L with
 | nil => intro p hp; cases hp
 | cons y L ih =>
  have h' := List.pairwise_cons.1 h
  intro p hp
  unfold del at hp
  split at hp
  next hy =>
   rcases List.mem_cons.1 hp with rfl | hp
   ·rintro rfl; rw [Ky.less_self] at hy; cases hy
   ·exact ih h'.2 p hp
  next hy =>
   split at hp
   next he =>
    rintro rfl
    have := h'.1 p hp
    rw [he, Ky.less_self] at this
    cases this
   next he =>
    rcases List.mem_cons.1 hp with rfl | hp
    ·exact he
    ·rintro rfl
     exact hy (h'.1 p hp)
theorem mem_del {k : Str} {q : Pr} {L : List Pr} (h : Sorted L) : q ∈ del k L ↔ q ∈ L ∧ q.1 ≠ k :=
 ⟨fun hq => ⟨del_mem hq, del_out h q hq⟩, fun ⟨h1, h2⟩ => del_rest h1 h2⟩
theorem sorted_ext : ∀ {L1 L2 : List Pr}, Sorted L1 → Sorted L2 → (∀ p, p ∈ L1 ↔ p ∈ L2) → L1 = L2
 | [], [], _, _, _ => rfl
 | [], q :: L2, _, _, h => absurd ((h q).2 (by simp)) (by simp)
 | p :: L1, [], _, _, h => absurd ((h p).1 (by simp)) (by simp)
 | p :: L1, q :: L2, h1, h2, h => by
  have h1' := List.pairwise_cons.1 h1
  have h2' := List.pairwise_cons.1 h2
  have e : p = q := by
   rcases List.mem_cons.1 ((h p).1 (by simp)) with e | e
   ·exact e
   ·rcases List.mem_cons.1 ((h q).2 (by simp)) with e2 | e2
    ·exact e2.symm
    ·have a1 := h2'.1 p e
     have a2 := h1'.1 q e2
     rw [Ky.less_asymm a1] at a2
     cases a2
  subst e
  have hself : ∀ {L : List Pr}, (∀ a' ∈ L, less p.1 a'.1 = true) → p ∉ L := fun hl hp => by
   have := hl p hp
   rw [Ky.less_self] at this
   cases this
  rw [sorted_ext h1'.2 h2'.2 (fun x => ⟨fun hx => ?_, fun hx => ?_⟩)]
  ·rcases List.mem_cons.1 ((h x).1 (List.mem_cons_of_mem _ hx)) with e | e
   ·subst e; exact absurd hx (hself h1'.1)
   ·exact e
  ·rcases List.mem_cons.1 ((h x).2 (List.mem_cons_of_mem _ hx)) with e | e
   ·subst e; exact absurd hx (hself h2'.1)
   ·exact e
theorem mem_get {L : List Pr} (h : Sorted L) {k s : Str} : get k L = some s ↔ (k, s) ∈ L := by
 constructor
 ·intro hg
  have h1 := get_ceil k L
  rw [hg, ceil_place] at h1
  cases hq : L[pl k L]? with
  | none => rw [hq] at h1; cases h1
  | some q =>
   rw [hq] at h1
   simp only at h1
   split at h1
   ·next e => cases h1; rw [← e]; exact List.mem_of_getElem? hq
   ·cases h1
 ·exact fun hm => get_of h hm
theorem get_no {L : List Pr} {k : Str} : Sorted L → (get k L = none ↔ ∀ p ∈ L, p.1 ≠ k) := fun h => by
 constructor
 ·intro hg p hp e
  have : get k L = some p.2 := by rw [← e]; exact get_of h hp
  rw [hg] at this
  cases this
 ·intro hn
  cases hg : get k L with
  | none => rfl
  | some s => exact absurd rfl (hn _ ((mem_get h).1 hg))
theorem get_ins_other {L : List Pr} (h : Sorted L) {k j v : Str} (hk : j ≠ k) : get j (ins (k, v) L) = get j L := by
 cases hg : get j L with
 | none =>
  rw [get_no (h.ins _)]
  intro p hp
  rcases ins_mem hp with rfl | hp
  ·exact fun e => hk e.symm
  ·exact (get_no h).1 hg p hp
 | some s => exact (mem_get (h.ins _)).2 (ins_rest ((mem_get h).1 hg) hk)
theorem get_del_other {L : List Pr} (h : Sorted L) {k j : Str} (hk : j ≠ k) : get j (del k L) = get j L := by
 cases hg : get j L with
 | none =>
  rw [get_no (h.del _)]
  intro p hp
  exact (get_no h).1 hg p (del_mem hp)
 | some s => exact (mem_get (h.del _)).2 (del_rest ((mem_get h).1 hg) hk)
theorem get_del_self {L : List Pr} (h : Sorted L) (k : Str) : get k (del k L) = none := (get_no (h.del _)).2 (del_out h)
/-! ### The indexes -/
def ent (c : Nat) (p : Pr) : Str := Ky.put (col (decT p.2) c) p.1
def insAll (xs : List Str) : List Pr := xs.foldl (fun I k => ins (k, []) I) []
def idx (c : Nat) (L : List Pr) : List Pr := insAll (L.map (ent c))
theorem insAll_snoc (xs : List Str) (k : Str) : insAll (xs ++ [k]) = ins (k, []) (insAll xs) := by unfold insAll; rw [List.foldl_append]; rfl
theorem insAll_all (xs : List Str) : Sorted (insAll xs) ∧ ∀ p, p ∈ insAll xs ↔ p.2 = [] ∧ p.1 ∈ xs := by
 have key : ∀ (ys : List Str), Sorted (insAll ys.reverse) ∧ ∀ p, p ∈ insAll ys.reverse ↔ p.2 = [] ∧ p.1 ∈ ys.reverse := by
  intro ys
  induction ys with
  | nil => exact ⟨List.Pairwise.nil, fun p => by simp [insAll]⟩
  | cons k ys ih =>
   rw [List.reverse_cons, insAll_snoc]
   refine ⟨ih.1.ins _, fun p => ?_⟩
   rw [mem_ins ih.1, ih.2]
   constructor
   ·rintro (rfl | ⟨⟨h1, h2⟩, _⟩)
    ·exact ⟨rfl, by simp⟩
    ·exact ⟨h1, List.mem_append_left _ h2⟩
   ·rintro ⟨h1, h2⟩
    by_cases e : p.1 = k
    ·exact .inl (Prod.ext e h1)
    ·refine .inr ⟨⟨h1, ?_⟩, e⟩
     rcases List.mem_append.1 h2 with h2 | h2
     ·exact h2
     ·exact absurd (by simpa using h2) e
 have := key xs.reverse
 rwa [List.reverse_reverse] at this
theorem idx_sorted (c : Nat) (L : List Pr) : Sorted (idx c L) := (insAll_all _).1
theorem mem_idx {c : Nat} {L : List Pr} {q : Pr} : q ∈ idx c L ↔ q.2 = [] ∧ ∃ p ∈ L, ent c p = q.1 := by
 unfold idx
 rw [(insAll_all _).2, List.mem_map]
theorem ent_inj {L : List Pr} (h : OkT L) {c : Nat} {p q : Pr} (hp : p ∈ L) (hq : q ∈ L) (e : ent c p = ent c q) : p.1 = q.1 :=
 ((Ky.put_inj (h.col hp c) (h.col hq c) _ _).1 e).2
theorem insAll_len : ∀ {xs : List Str}, xs.Nodup → (insAll xs).length = xs.length := by
 have key : ∀ (ys : List Str), ys.reverse.Nodup → (insAll ys.reverse).length = ys.reverse.length := by
  intro ys
  induction ys with
  | nil => intro _; rfl
  | cons k ys ih =>
   intro h
   rw [List.reverse_cons] at h ⊢
   have h' := List.nodup_append.1 h
   have hk : get k (insAll ys.reverse) = none := (get_no (insAll_all _).1).2 (fun p hp e => by
    have h2 := (((insAll_all _).2 p).1 hp).2
    exact h'.2.2 p.1 h2 k (by simp) e)
   rw [insAll_snoc, ins_len, if_pos hk, ih h'.1, List.length_append]
   rfl
 intro xs h
 have := key xs.reverse (by rwa [List.reverse_reverse])
 rwa [List.reverse_reverse] at this
theorem idx_len {L : List Pr} (h : OkT L) (hs : Sorted L) (c : Nat) : (idx c L).length = L.length := by
 unfold idx
 rw [insAll_len, List.length_map]
 unfold List.Nodup
 rw [List.pairwise_map]
 refine hs.imp_of_mem ?_
 intro p q hp hq hpq e
 have := ent_inj h hp hq e
 rw [this, Ky.less_self] at hpq
 cases hpq
def turnI (c : Nat) (k : Str) (old now : Option R4) (I : List Pr) : List Pr :=
 let I1 := match old with | some r => del (Ky.put (col r c) k) I | none => I
 match now with | some r => ins (Ky.put (col r c) k, []) I1 | none => I1
def keepC (c : Nat) (old now : Option R4) : Bool := match old, now with | some r, some s => col r c == col s c | _, _ => false
def turnC (c : Nat) (k : Str) (old now : Option R4) (I : List Pr) : List Pr := if keepC c old now then I else turnI c k old now I
def rowsTo (k : Str) (now : Option R4) (L : List Pr) : List Pr := match now with | some r => ins (k, encT r) L | none => del k L
theorem rowsTo_ok {L : List Pr} (h : OkT L) {k : Str} (hk : Ks.okKey k = true) (now : Option R4) (hn : ∀ r, now = some r → In4 r) : OkT (rowsTo k now L) := by
 cases now with
 | none => exact h.del k
 | some r => exact h.ins hk (hn r rfl)
theorem rowsTo_sorted {L : List Pr} (h : Sorted L) (k : Str) (now : Option R4) : Sorted (rowsTo k now L) := by
 cases now with
 | none => exact h.del k
 | some r => exact h.ins _
theorem mem_rowsTo {L : List Pr} (h : Sorted L) {k : Str} {now : Option R4} {q : Pr} : q ∈ rowsTo k now L ↔ (∃ r, now = some r ∧ q = (k, encT r)) ∨ (q ∈ L ∧ q.1 ≠ k) := by
 cases now with
 | none => simp [rowsTo, mem_del h]
 | some r => simp [rowsTo, mem_ins h]
theorem idx_turn {L : List Pr} (h : OkT L) (hs : Sorted L) {k : Str} (hk : Ks.okKey k = true) (now : Option R4) (hn : ∀ r, now = some r → In4 r) (c : Nat) :
  turnC c k ((get k L).map decT) now (idx c L) = idx c (rowsTo k now L) := by
 have hI := idx_sorted c L
 have hL2 := rowsTo_ok h hk now hn
 have hmem : ∀ q : Pr, q ∈ idx c (rowsTo k now L) ↔ q.2 = [] ∧ ((∃ r, now = some r ∧ Ky.put (col r c) k = q.1) ∨ ∃ p ∈ L, p.1 ≠ k ∧ ent c p = q.1) := by
  intro q
  rw [mem_idx]
  constructor
  ·rintro ⟨h1, p, hp, e⟩
   refine ⟨h1, ?_⟩
   rcases (mem_rowsTo hs).1 hp with ⟨r, e1, rfl⟩ | ⟨hp, hne⟩
   ·refine .inl ⟨r, e1, ?_⟩
    rw [← e]
    unfold ent
    rw [decT_encT (hn r e1)]
   ·exact .inr ⟨p, hp, hne, e⟩
  ·rintro ⟨h1, h2⟩
   refine ⟨h1, ?_⟩
   rcases h2 with ⟨r, e1, e2⟩ | ⟨p, hp, hne, e⟩
   ·refine ⟨(k, encT r), (mem_rowsTo hs).2 (.inl ⟨r, e1, rfl⟩), ?_⟩
    rw [← e2]
    unfold ent
    rw [decT_encT (hn r e1)]
   ·exact ⟨p, (mem_rowsTo hs).2 (.inr ⟨hp, hne⟩), e⟩
 -- what is in the index without the old entry
 have hdel : ∀ (I : List Pr), I = (match (get k L).map decT with | some r => del (Ky.put (col r c) k) (idx c L) | none => idx c L) → Sorted I ∧ ∀ q : Pr, q ∈ I ↔ q.2 = [] ∧ ∃ p ∈ L, p.1 ≠ k ∧ ent c p = q.1 := by
  intro I hI2
  cases hg : get k L with
  | none =>
   rw [hg] at hI2
   subst hI2
   refine ⟨hI, fun q => ?_⟩
   rw [Option.map_none, mem_idx]
   have hno := (get_no hs).1 hg
   exact ⟨fun ⟨h1, p, hp, e⟩ => ⟨h1, p, hp, hno p hp, e⟩, fun ⟨h1, p, hp, _, e⟩ => ⟨h1, p, hp, e⟩⟩
  | some s =>
   rw [hg] at hI2
   subst hI2
   have hm := (mem_get hs).1 hg
   refine ⟨hI.del _, fun q => ?_⟩
   rw [Option.map_some, mem_del hI, mem_idx]
   constructor
   ·rintro ⟨⟨h1, p, hp, e⟩, hne⟩
    refine ⟨h1, p, hp, fun ek => hne ?_, e⟩
    have : p = (k, s) := sorted_uniq hs hp hm ek
    rw [← e, this]
    rfl
   ·rintro ⟨h1, p, hp, hne, e⟩
    refine ⟨⟨h1, p, hp, e⟩, fun e2 => hne ?_⟩
    exact ent_inj h (c := c) (q := (k, s)) hp hm (e.trans e2)
 unfold turnC
 by_cases hkeep : keepC c ((get k L).map decT) now = true
 ·rw [if_pos hkeep]
  refine sorted_ext hI (idx_sorted _ _) (fun q => ?_)
  rw [hmem, mem_idx]
  cases hg : get k L with
  | none => rw [hg] at hkeep; cases hkeep
  | some s =>
   cases now with
   | none => rw [hg] at hkeep; cases hkeep
   | some r =>
    rw [hg] at hkeep
    have hcol : col (decT s) c = col r c := by simpa [keepC] using hkeep
    have hm := (mem_get hs).1 hg
    constructor
    ·rintro ⟨h1, p, hp, e⟩
     refine ⟨h1, ?_⟩
     by_cases ek : p.1 = k
     ·have : p = (k, s) := sorted_uniq hs hp hm ek
      refine .inl ⟨r, rfl, ?_⟩
      rw [← e, this]
      unfold ent
      rw [hcol]
     ·exact .inr ⟨p, hp, ek, e⟩
    ·rintro ⟨h1, h2⟩
     refine ⟨h1, ?_⟩
     rcases h2 with ⟨r', e1, e2⟩ | ⟨p, hp, _, e⟩
     ·cases e1
      refine ⟨(k, s), hm, ?_⟩
      unfold ent
      rw [hcol]
      exact e2
     ·exact ⟨p, hp, e⟩
 ·rw [if_neg hkeep]
  unfold turnI
  obtain ⟨hS1, hM1⟩ := hdel _ rfl
  cases now with
  | none =>
   refine sorted_ext hS1 (idx_sorted _ _) (fun q => ?_)
   rw [hmem, hM1]
   simp
  | some r =>
   refine sorted_ext (hS1.ins _) (idx_sorted _ _) (fun q => ?_)
   simp only
   rw [hmem, mem_ins hS1, hM1]
   constructor
   ·rintro (rfl | ⟨⟨h1, h2⟩, _⟩)
    ·exact ⟨rfl, .inl ⟨r, rfl, rfl⟩⟩
    ·exact ⟨h1, .inr h2⟩
   ·rintro ⟨h1, h2⟩
    by_cases e : q.1 = Ky.put (col r c) k
    ·exact .inl (Prod.ext e h1)
    ·rcases h2 with ⟨r', e1, e2⟩ | h2
     ·cases e1; exact absurd e2.symm e
     ·exact .inr ⟨⟨h1, h2⟩, e⟩
end Tb
end Go.Proofs.YtecnijnmgdfdhaaGreat

namespace Go.Proofs.YtecnijnmgdfdhaaGreat
open Go.RowKit Tr
open Ky (less)

def putO (key v : Str) (L : List Pr) : Str := if okTk key && decide (v.length ≤ 256) then oldS key L else []
def putI (key v : Str) (L : List Pr) : Bool := if okTk key && decide (v.length ≤ 256) then (get key L).isSome else false
def putC (key v : Str) : Int := if okTk key then (if v.length ≤ 256 then 0 else 23) else 13
def putL (key v : Str) (L : List Pr) : List Pr := if okTk key && decide (v.length ≤ 256) then ins (key, v) L else L
def getO (key : Str) (L : List Pr) : Str := if okTk key then oldS key L else []
def getC (key : Str) (L : List Pr) : Int := if okTk key then cdel key L else 13
def delL (key : Str) (L : List Pr) : List Pr := if okTk key then del key L else L
def TreeR (b o : Nat) (L : List Pr) : Rs where
 R w F := ∃ h g, TreeAt w b o h g ∧ flat h g = L ∧ F = treeF b h g
 fr := fun ⟨h, g, t, e, hF⟩ hf ha => ⟨h, g, t.fr hf (by rw [← hF]; exact ha), e, hF⟩
 lies := fun ⟨h, g, t, e, hF⟩ => by rw [hF]; exact t.m.lies
section
variable {B : Nat} {w0 w V : World} {L L' X : List Rs} {A C : Rs}
theorem Own.open1 (h : Own B w0 (A :: X) w) : ∃ F1, A.R w F1 ∧ (∀ b o, F1 b o → B ≤ b) ∧ ∀ V L', Turn L' w F1 V → Own B w0 (L' ++ X) V := by
 obtain ⟨hB, hb0, F, ⟨F1, F2, e, ha, h1, h3⟩, h2⟩ := h
 refine ⟨F1, h1, fun b o hb => h2 b o ((e b o).2 (.inl hb)), fun V L' ⟨F1', k1, k2, k3⟩ => ?_⟩
 have hs := Nat.le_trans hB hb0.size
 refine ⟨hB, hb0.trans (k2.below hs (fun b o hb => h2 b o ((e b o).2 (.inl hb)))), fun b o => F1' b o ∨ F2 b o, SepF.join (fun b o => Iff.rfl) ((ha.symm.grew h3.lies k3).symm) k1 (h3.fr k2 ha.symm), fun b o hb => ?_⟩
 rcases hb with hb | hb
 ·rcases k3 b o hb with h | h
  ·exact h2 b o ((e b o).2 (.inl h))
  ·omega
 ·exact h2 b o ((e b o).2 (.inr hb))
end
section
variable {B : Nat} {w0 w : World} {X X' : List Rs} {b o r c : Nat} {L : List Pr} {s t at_ : Str}
theorem own_new (o : Nat) (h2 : 2 ≤ o) (h16 : o ≤ 16) (h : Own B w0 X w) :
  Calls Tryz.prog 73 #[.int .i64 o] w fun e V => ∃ b, e = .returned (.tuple #[ptrV b, .int .i64 0]) ∧ Own B w0 (TreeR b o [] :: X) V := by
 refine (newT_any o h2 h16 w).mono ?_
 rintro e V ⟨b, g, rfl, t1, t2, t3, t4⟩
 exact ⟨b, rfl, h.add t3 (F := treeF b 0 g) ⟨0, g, t1, t2, rfl⟩ t4⟩
theorem own_put (key v : Str) (h : Own B w0 (TreeR b o L :: X) w) (hn : L.length ≤ 100000) :
  Calls Tryz.prog 68 #[ptrV b, .string ⟨key.toArray⟩, .string ⟨v.toArray⟩] w fun e V => e = .returned (.tuple #[.string ⟨(putO key v L).toArray⟩, .bool (putI key v L), .int .i64 (putC key v)]) ∧ Own B w0 (TreeR b o (putL key v L) :: X) V := by
 obtain ⟨F1, ⟨hh, g, t, e, rfl⟩, _, hk⟩ := h.open1
 unfold putO putI putC putL
 cases hk1 : okTk key with
 | false =>
  refine (put_code _ key v 13 (.inr rfl) (says_key b key hk1) w).mono ?_
  rintro e V ⟨rfl, rfl⟩
  exact ⟨rfl, h⟩
 | true =>
  by_cases hv : v.length ≤ 256
  ·refine (tree_put b o hh g key v hk1 hv (by rw [e]; omega) w t).mono ?_
   rintro e' V ⟨rfl, h', g', t1, t2, t3, t4, _⟩
   rw [e] at t2 ⊢
   simp only [hv, decide_true, Bool.and_self, if_true]
   exact ⟨trivial, hk V [TreeR b o _] ⟨treeF b h' g', SepF.one ⟨h', g', t1, t2, rfl⟩, t3, t4⟩⟩
  ·refine (put_long b key v hk1 (by omega) w).mono ?_
   rintro e V ⟨rfl, rfl⟩
   simp only [hv, decide_false, Bool.and_false, if_false, if_true]
   exact ⟨rfl, h⟩
theorem own_del (key : Str) (h : Own B w0 (TreeR b o L :: X) w) (hn : L.length ≤ 100000) :
  Calls Tryz.prog 71 #[ptrV b, .string ⟨key.toArray⟩] w fun e V => e = .returned (.tuple #[.string ⟨(getO key L).toArray⟩, .int .i64 (getC key L)]) ∧ Own B w0 (TreeR b o (delL key L) :: X) V := by
 obtain ⟨F1, ⟨hh, g, t, e, rfl⟩, _, hk⟩ := h.open1
 unfold getO getC delL
 cases hk1 : okTk key with
 | false =>
  refine (del_code _ key 13 (.inr rfl) (says_key b key hk1) w).mono ?_
  rintro e V ⟨rfl, rfl⟩
  exact ⟨rfl, h⟩
 | true =>
  refine (tree_del b o hh g key hk1 (by rw [e]; omega) w t).mono ?_
  rintro e' V ⟨rfl, h', g', t1, t2, t3, t4, _⟩
  rw [e] at t2 ⊢
  exact ⟨rfl, hk V [TreeR b o _] ⟨treeF b h' g', SepF.one ⟨h', g', t1, t2, rfl⟩, t3, t4⟩⟩
theorem own_get (key : Str) (h : Own B w0 (TreeR b o L :: X) w) :
  Calls Tryz.prog 90 #[ptrV b, .string ⟨key.toArray⟩] w fun e V => e = .returned (.tuple #[.string ⟨(getO key L).toArray⟩, .int .i64 (getC key L)]) ∧ Below w.heap.size w V := by
 obtain ⟨F1, ⟨hh, g, t, e, rfl⟩, _, hk⟩ := h.open1
 unfold getO getC
 cases hk1 : okTk key with
 | false =>
  refine (get_code _ key 13 (.inr rfl) (says_key b key hk1) w).mono ?_
  rintro e V ⟨rfl, rfl⟩
  exact ⟨rfl, Below.refl _ _⟩
 | true =>
  refine (get_walk b o hh g key hk1 w t).mono ?_
  rintro e' V ⟨rfl, hb⟩
  rw [e]
  exact ⟨rfl, hb⟩
theorem own_sorted (h : Own B w0 (TreeR b o L :: X) w) : Sorted L := by
 obtain ⟨F1, ⟨hh, g, t, rfl, rfl⟩, _, _⟩ := h.open1
 exact t.good.sorted
theorem own_count (h : Own B w0 (TreeR b o L :: X) w) : w.cell? ⟨b, 1, none⟩ = some (.int .i64 (L.length : Nat)) := by
 obtain ⟨F1, ⟨hh, g, t, rfl, rfl⟩, _, _⟩ := h.open1
 exact t.m.c1
theorem own_all_new {B b o : Nat} {w0 w : World} {X : List Rs} {L : List Pr} (h : Own B w0 (TreeR b o L :: X) w) (hn : L.length ≤ 900000) :
  Calls Tryz.prog 79 #[ptrV b] w fun e V => ∃ (Bx : Nat) (a : Option Addr) (c : Nat), e = .returned (.func (.func 115) #[] #[.pointer (some ⟨Bx, 0, none⟩)]) ∧ V.cell? ⟨Bx, 0, none⟩ = some (.slice a L.length c) ∧ Rd V 2 a L.length c (pairsV L) ∧ Below w.heap.size w V ∧ w.heap.size ≤ Bx ∧ ∀ x, a = some x → L ≠ [] → w.heap.size ≤ x.block := by
 obtain ⟨F1, ⟨hh, g, t, rfl, rfl⟩, _, _⟩ := h.open1
 exact allT_new b o hh g w t hn
theorem own_cells (h : Own B w0 X w) (vs : Array Value) (t : TypeId) : Own B w0 (CellsR w.heap.size vs.toList :: X) (w.alloc (.cells vs t)) :=
 h.add (al1 w _) (F := fun k _ => k = w.heap.size) ⟨fun k o => Iff.rfl, by simp, fun i v hv => ⟨by simp; simpa using hv, by simp⟩⟩ (fun k x e => by rw [e]; exact Nat.le_refl _)
theorem own_cell {P : Nat} {vs : List Value} (h : Own B w0 (CellsR P vs :: X) w) {i : Nat} {v : Value} (hv : vs[i]? = some v) : w.cell? ⟨P, i, none⟩ = some v := by
 obtain ⟨F, hR, _⟩ := h.get
 exact (hR.2.2 i v hv).1
theorem Own.third {A C D : Rs} (h : Own B w0 (A :: C :: D :: X) w) : Own B w0 (D :: A :: C :: X) w := h.perm ((List.Perm.cons A (.swap D C X)).trans (.swap D A (C :: X)))
theorem Own.rot3 {A C D : Rs} (h : Own B w0 (D :: A :: C :: X) w) : Own B w0 (A :: C :: D :: X) w := h.perm ((List.Perm.swap A D (C :: X)).trans (List.Perm.cons A (.swap C D X)))
end
def nk (l : List Pr) : Str := match l with | [] => [] | q :: _ => q.1
def nv (l : List Pr) : Str := match l with | [] => [] | q :: _ => q.2
section
variable {B : Nat} {w0 w : World} {X X' : List Rs} {b o r c : Nat} {L : List Pr} {s t at_ : Str}
def SlR (size : Nat) (a : Option Addr) (n c : Nat) (xs : List Value) : Rs where
 R w F := Sl w size F a n c xs ∧ Lies w F
 fr := fun ⟨h1, h2⟩ hf ha => ⟨h1.fr hf ha, h2.later hf⟩
 lies := fun ⟨_, h2⟩ => h2
theorem own_loc {size n k : Nat} {a : Option Addr} {xs : List Value} {V : World} (h : Own B w0 X w) (hL : Loc size w V a n k xs) : Own B w0 (SlR size a n k xs :: X) V := by
 obtain ⟨F, h1, h2, h3, h4⟩ := hL
 exact h.add h4 (F := F) ⟨h1, h2⟩ h3
theorem own_rd {size n k : Nat} {a : Option Addr} {xs : List Value} (h : Own B w0 (SlR size a n k xs :: X) w) : Rd w size a n k xs := by
 obtain ⟨F, ⟨h1, _⟩, _⟩ := h.get
 exact h1.rd
end
section
variable {B : Nat} {w0 : World} {X : List Rs}
theorem own_nilSl {w : World} (h : Own B w0 X w) (size : Nat) : Own B w0 (SlR size none 0 0 [] :: X) w :=
 h.add (Below.refl _ _) (F := noCells) ⟨Sl.none_ w size, fun _ _ h => h.elim⟩ (fun _ _ h => h.elim)
theorem wpList_app_own {P : Program} {w : World} {ops : Array Oper} {rest : List Oper} {o : Oper} {a : Act} {Q : Exit → Act → World → Prop} (hgd : o.guard = none) (s x : Operand) (t : TypeId)
  (ho : o.op = .call { callee := .builtin .append, args := #[s, x], argTypes := #[t, t] })
  (e : TypeId) (i : TypeInfo) (z : Value) (size bytes : Nat) (ht : P.underlying t = some (.slice e)) (hi : P.info? e = some i) (hz : i.zero = some z)
  (hsize : i.size = size) (hby : i.bytes = bytes) (hzs : z.cells.size = size) (hsz : 0 < size)
  (a1 : Option Addr) (n c : Nat) (xs : List Value) (hs : a.eval s = .slice a1 n c) (hown : Own B w0 (SlR size a1 n c xs :: X) w)
  (a2 : Option Addr) (m c2 : Nat) (news : List Value) (hx : a.eval x = .slice a2 m c2) (hr : Rd w size a2 m c2 news)
  (N : Nat) (ys : List Value) (hN : n + m = N) (hys : xs ++ news = ys) (h63 : N ≤ maxLen) (hbytes : N * bytes ≤ 140737488355328)
  (h : ∀ a' c' w', Own B w0 (SlR size a' N c' ys :: X) w' → wpList P ops Q rest (a.put o.dst (.slice a' N c')) w') : wpList P ops Q (o :: rest) a w := by
 obtain ⟨F, ⟨h1, h2⟩, _, hk⟩ := hown.open1
 exact wpList_app_sl hgd s x t ho e i z size bytes ht hi hz hsize hby hzs hsz F a1 n c xs hs h1 h2 a2 m c2 news hx hr N ys hN hys h63 hbytes fun a' c' w' F' k1 k2 k3 k4 =>
  h a' c' w' (hk w' [SlR size a' N c' ys] ⟨F', SepF.one ⟨k1, k4⟩, k2, k3⟩)
end
section
variable {B : Nat} {w0 w : World} {X : List Rs} {b o : Nat} {L : List Pr}
theorem own_lenT (h : Own B w0 (TreeR b o L :: X) w) :
  Calls Tryz.prog 54 #[ptrV b] w fun e V => e = .returned (.int .i64 (L.length : Nat)) ∧ w = V := by
 exact lenT_any b L.length w (own_count h)
end
end Go.Proofs.YtecnijnmgdfdhaaGreat

namespace Go.Proofs.YtecnijnmgdfdhaaGreat
namespace Tb
open Go.RowKit Tr
open Ky (less)
theorem text_size (s : List UInt8) : (⟨s.toArray⟩ : ByteArray).size = s.length := by show s.toArray.size = _; simp
theorem conv_ex {P : Program} (src dst e : TypeId) (s : List UInt8) (hl : s.length ≤ maxLen) (hs : P.underlying src = some .string) (hd : P.underlying dst = some (.slice e)) (he : P.underlying e = some (.int .u8)) (w : World) :
  ∃ a c w', (convert src dst (.string ⟨s.toArray⟩)).run P w = .ok (.slice a s.length c) w' ∧ RdB w' a c s ∧ Below w.heap.size w w' := by
 have h := run_bytes_of_string (P := P) w src dst e ⟨s.toArray⟩ hs hd he
 rw [text_size] at h
 have hge := grownCap_ge w s.length 0 e
 have hcm : grownCap w s.length 0 e ≤ maxLen := grownCap_le_maxLen w s.length 0 e hl
 refine ⟨_, _, _, h, ⟨by rw [bytesV_length]; omega, hge, hcm, (fun h => by cases h), fun x hx i u hu => ?_, bytesV_one s⟩, (Below.refl _ _).drew.alloc (Nat.le_refl _) _⟩
 cases hx
 rw [Addr.add_lit, Nat.zero_add, cell_of_row _ w.heap.size i _ e _ (heap_alloc_new w.drew _)]
 unfold bytesV at hu
 rw [List.getElem?_map] at hu
 cases hg : s[i]? with
 | none => rw [hg] at hu; cases hu
 | some b =>
  rw [hg] at hu
  cases hu
  have hi := (List.getElem?_eq_some_iff.1 hg)
  obtain ⟨hi1, hi2⟩ := hi
  have := bytesRow_at ⟨s.toArray⟩ (grownCap w s.length 0 e) i (by simpa using hi1)
  rw [this]
  simp [hi2]
theorem wpList_conv {P : Program} {w : World} {ops : Array Oper} {rest : List Oper} {o : Oper} {a : Act} {Q : Exit → Act → World → Prop} (hgd : o.guard = none) (x : Operand) (src dst e : TypeId)
  (ho : o.op = .convert src dst x) (s : List UInt8) (hl : s.length ≤ maxLen) (hs : P.underlying src = some .string) (hd : P.underlying dst = some (.slice e)) (he : P.underlying e = some (.int .u8))
  (hx : a.eval x = .string ⟨s.toArray⟩)
  (h : ∀ a' c' w', RdB w' a' c' s → Below w.heap.size w w' → wpList P ops Q rest (a.put o.dst (.slice a' s.length c')) w') : wpList P ops Q (o :: rest) a w := by
 refine wpList_plain hgd fun K hK => ?_
 obtain ⟨a', c', w', hrun, h2, h3⟩ := conv_ex (P := P) src dst e s hl hs hd he w
 unfold Oper.wp
 simp [execOp, ho, resolve, hx, hrun, Result.andThen]
 exact hK _ _ (h _ _ _ h2 h3)
theorem conv_str {w : World} {a : Option Addr} {c : Nat} {bs : List UInt8} (h : RdB w a c bs) : (convert 129 9 (.slice a bs.length c)).run Tryz.prog w = .ok (.string ⟨bs.toArray⟩) w :=
 run_bytes_str Tryz.underlying129 Tryz.underlying5 Tryz.underlying9 h
def tcells (most : Nat) (b : Nat → Nat) : List Value := [.int .i64 most, ptrV (b 0), ptrV (b 1), ptrV (b 2), ptrV (b 3), ptrV (b 4)]
def trees5 (o : Nat) (b : Nat → Nat) (Ls : Nat → List Pr) : List Rs := [TreeR (b 0) o (Ls 0), TreeR (b 1) o (Ls 1), TreeR (b 2) o (Ls 2), TreeR (b 3) o (Ls 3), TreeR (b 4) o (Ls 4)]
def tabS (tb most o : Nat) (b : Nat → Nat) (Ls : Nat → List Pr) : List Rs := CellsR tb (tcells most b) :: trees5 o b Ls
def upd (Ls : Nat → List Pr) (i : Nat) (L : List Pr) : Nat → List Pr := fun j => if j = i then L else Ls j
theorem tree_out (tb most o : Nat) (b : Nat → Nat) (Ls : Nat → List Pr) (i : Nat) (hi : i < 5) : ∃ Y, (tabS tb most o b Ls).Perm (TreeR (b i) o (Ls i) :: Y) ∧ ∀ L', (TreeR (b i) o L' :: Y).Perm (tabS tb most o b (upd Ls i L')) := by
 have h : i = 0 ∨ i = 1 ∨ i = 2 ∨ i = 3 ∨ i = 4 := by omega
 rcases h with rfl | rfl | rfl | rfl | rfl
 ·exact ⟨CellsR tb (tcells most b) :: [TreeR (b 1) o (Ls 1), TreeR (b 2) o (Ls 2), TreeR (b 3) o (Ls 3), TreeR (b 4) o (Ls 4)], .swap _ _ _, fun L' => .swap _ _ _⟩
 ·exact ⟨CellsR tb (tcells most b) :: TreeR (b 0) o (Ls 0) :: [TreeR (b 2) o (Ls 2), TreeR (b 3) o (Ls 3), TreeR (b 4) o (Ls 4)], List.perm_middle (l₁ := [_, _]), fun L' => (List.perm_middle (l₁ := [_, _])).symm⟩
 ·exact ⟨CellsR tb (tcells most b) :: TreeR (b 0) o (Ls 0) :: TreeR (b 1) o (Ls 1) :: [TreeR (b 3) o (Ls 3), TreeR (b 4) o (Ls 4)], List.perm_middle (l₁ := [_, _, _]), fun L' => (List.perm_middle (l₁ := [_, _, _])).symm⟩
 ·exact ⟨CellsR tb (tcells most b) :: TreeR (b 0) o (Ls 0) :: TreeR (b 1) o (Ls 1) :: TreeR (b 2) o (Ls 2) :: [TreeR (b 4) o (Ls 4)], List.perm_middle (l₁ := [_, _, _, _]), fun L' => (List.perm_middle (l₁ := [_, _, _, _])).symm⟩
 ·exact ⟨CellsR tb (tcells most b) :: TreeR (b 0) o (Ls 0) :: TreeR (b 1) o (Ls 1) :: TreeR (b 2) o (Ls 2) :: TreeR (b 3) o (Ls 3) :: [], List.perm_middle (l₁ := [_, _, _, _, _]), fun L' => (List.perm_middle (l₁ := [_, _, _, _, _])).symm⟩
section
variable {B : Nat} {w0 w : World} {X : List Rs} {tb most o : Nat} {b : Nat → Nat} {Ls : Nat → List Pr}
theorem own_tput (i : Nat) (hi : i < 5) (key v : Str) (h : Own B w0 (tabS tb most o b Ls ++ X) w) (hn : (Ls i).length ≤ 100000) :
  Calls Tryz.prog 68 #[ptrV (b i), .string ⟨key.toArray⟩, .string ⟨v.toArray⟩] w fun e V => e = .returned (.tuple #[.string ⟨(putO key v (Ls i)).toArray⟩, .bool (putI key v (Ls i)), .int .i64 (putC key v)]) ∧ Own B w0 (tabS tb most o b (upd Ls i (putL key v (Ls i))) ++ X) V := by
 obtain ⟨Y, h1, h2⟩ := tree_out tb most o b Ls i hi
 refine (own_put key v (h.perm (h1.append_right X)) hn).mono ?_
 rintro e V ⟨rfl, h3⟩
 exact ⟨rfl, h3.perm ((h2 _).append_right X)⟩
theorem own_tdel (i : Nat) (hi : i < 5) (key : Str) (h : Own B w0 (tabS tb most o b Ls ++ X) w) (hn : (Ls i).length ≤ 100000) :
  Calls Tryz.prog 71 #[ptrV (b i), .string ⟨key.toArray⟩] w fun e V => e = .returned (.tuple #[.string ⟨(getO key (Ls i)).toArray⟩, .int .i64 (getC key (Ls i))]) ∧ Own B w0 (tabS tb most o b (upd Ls i (delL key (Ls i))) ++ X) V := by
 obtain ⟨Y, h1, h2⟩ := tree_out tb most o b Ls i hi
 refine (own_del key (h.perm (h1.append_right X)) hn).mono ?_
 rintro e V ⟨rfl, h3⟩
 exact ⟨rfl, h3.perm ((h2 _).append_right X)⟩
theorem own_tget (i : Nat) (hi : i < 5) (key : Str) (h : Own B w0 (tabS tb most o b Ls ++ X) w) :
  Calls Tryz.prog 90 #[ptrV (b i), .string ⟨key.toArray⟩] w fun e V => e = .returned (.tuple #[.string ⟨(getO key (Ls i)).toArray⟩, .int .i64 (getC key (Ls i))]) ∧ Below w.heap.size w V := by
 obtain ⟨Y, h1, h2⟩ := tree_out tb most o b Ls i hi
 exact own_get key (h.perm (h1.append_right X))
theorem own_tlen (i : Nat) (hi : i < 5) (h : Own B w0 (tabS tb most o b Ls ++ X) w) :
  Calls Tryz.prog 54 #[ptrV (b i)] w fun e V => e = .returned (.int .i64 ((Ls i).length : Nat)) ∧ w = V := by
 obtain ⟨Y, h1, h2⟩ := tree_out tb most o b Ls i hi
 exact own_lenT (h.perm (h1.append_right X))
theorem own_tsorted (i : Nat) (hi : i < 5) (h : Own B w0 (tabS tb most o b Ls ++ X) w) : Sorted (Ls i) := by
 obtain ⟨Y, h1, h2⟩ := tree_out tb most o b Ls i hi
 exact own_sorted (h.perm (h1.append_right X))
theorem own_tcell (h : Own B w0 (tabS tb most o b Ls ++ X) w) {i : Nat} {v : Value} (hv : (tcells most b)[i]? = some v) : w.cell? ⟨tb, i, none⟩ = some v := own_cell h hv
theorem rows_any (h : Own B w0 (tabS tb most o b Ls ++ X) w) : Calls Tryz.prog 53 #[ptrV tb] w fun e V => e = .returned (ptrV (b 0)) ∧ w = V := by
 have x1 := own_tcell h (i := 1) rfl
 clear h
 go_enter Tryz.func53, Tryz.ntmps53
 go_wp2
 go_ret
 exact ⟨rfl, rfl⟩
theorem index_any (c : Nat) (hc : c < 4) (h : Own B w0 (tabS tb most o b Ls ++ X) w) : Calls Tryz.prog 57 #[ptrV tb, .int .i64 c] w fun e V => e = .returned (ptrV (b (c + 1))) ∧ w = V := by
 have x2 := own_tcell h (i := 2) rfl
 have x3 := own_tcell h (i := 3) rfl
 have x4 := own_tcell h (i := 4) rfl
 have x5 := own_tcell h (i := 5) rfl
 clear h
 have hh : c = 0 ∨ c = 1 ∨ c = 2 ∨ c = 3 := by omega
 rcases hh with rfl | rfl | rfl | rfl
 all_goals
  go_enter Tryz.func57, Tryz.ntmps57
  go_wp2
  go_ret
  exact ⟨rfl, rfl⟩
end
theorem checkTb_any (tb : Nat) (k : Str) (w : World) : Calls Tryz.prog 61 #[ptrV tb, .string ⟨k.toArray⟩] w fun e V => e = .returned (.int .i64 (Ks.chk k)) ∧ w = V := by
 have HC := Lib.hid (fun W => Ks.check_any k W)
 go_enter Tryz.func61, Tryz.ntmps61
 go_wp2_with (go_at_call 60; refine (HC.out _).mono ?_; rintro e V ⟨rfl, rfl⟩)
 go_ret
 exact ⟨rfl, rfl⟩
theorem okTk_key {k : Str} (h : Ks.okKey k = true) : okTk k = true := by
 have := of_decide_eq_true h
 exact decide_eq_true (by omega)
theorem row_of {L : List Pr} (h : OkT L) (hs : Sorted L) {k s : Str} (hg : get k L = some s) : ∃ l, Rw.Fd.row s = some l ∧ (decT s) = (l.getD 0 0, l.getD 1 0, l.getD 2 0, l.getD 3 0) ∧ s.length ≤ 40 := by
 obtain ⟨h1, h2⟩ := h.got hg hs
 obtain ⟨l, h3, _⟩ := Rw.row_encR h1
 have h4 : Rw.Fd.row s = some l := by rw [← h2]; exact h3
 exact ⟨l, h4, by unfold decT; rw [h4], by rw [← h2]; exact encT_len h1⟩
section
variable {B : Nat} {w0 w : World} {X : List Rs} {tb most o : Nat} {b : Nat → Nat} {Ls : Nat → List Pr} {L : List Pr}
set_option maxHeartbeats 1000000 in
theorem look_none (h : Own B w0 (tabS tb most o b Ls ++ X) w) (hL : Ls 0 = L) (k : Str) (hk : Ks.okKey k = true) (hg : get k L = none) :
  Calls Tryz.prog 62 #[ptrV tb, .string ⟨k.toArray⟩] w fun e V => e = .returned (.pointer none) ∧ Below w.heap.size w V := by
 have HR := Lib.hid (rows_any h)
 have HG := Lib.hid (own_tget 0 (by omega) k h)
 rw [hL, show getC k L = 14 by unfold getC cdel; rw [okTk_key hk, hg]; rfl, show getO k L = [] by unfold getO oldS; rw [okTk_key hk, hg]; rfl] at HG
 clear h hL hg
 go_enter Tryz.func62, Tryz.ntmps62
 go_wp2_with (first
  | (go_at_call 53; refine HR.out.mono ?_; rintro e V ⟨rfl, rfl⟩)
  | (go_at_call 90; refine HG.out.mono ?_; rintro e V ⟨rfl, hb⟩; have HB := Lib.hid hb; clear hb))
 go_ret
 exact ⟨rfl, HB.out⟩
def Looked (w : World) (r : R4) (e : Ending) (V : World) : Prop := ∃ p, e = .returned (ptrV p) ∧ (∀ i, i < 4 → V.cell? ⟨p, i, none⟩ = some (.int .i64 (col r i))) ∧ Below w.heap.size w V ∧ w.heap.size ≤ p ∧ p < V.heap.size ∧ ∀ i, i < 4 → V.frozen? ⟨p, i, none⟩ = false
theorem lRow_v {l : List Int} {r : R4} (h : r = (l.getD 0 0, l.getD 1 0, l.getD 2 0, l.getD 3 0)) : Rw.lRow l = Rw.rowV r.1 r.2.1 r.2.2.1 r.2.2.2 := by subst h; rfl
theorem decode_of {L : List Pr} (h : OkT L) (hs : Sorted L) {k s : Str} (hg : get k L = some s) {a : Option Addr} {c : Nat} {w : World} (hr : RdB w a c s) :
  Calls Tryz.prog 81 #[.slice a s.length c] w fun e V => e = .returned (.tuple #[Rw.rowV (decT s).1 (decT s).2.1 (decT s).2.2.1 (decT s).2.2.2, .int .i64 0]) ∧ Below w.heap.size w V := by
 obtain ⟨l, h1, h2, h3⟩ := row_of h hs hg
 have := Rw.rowsDecode a c s (by omega) w hr
 rw [h1] at this
 rw [h2]
 exact this
set_option maxHeartbeats 1000000 in
theorem look_some (h : Own B w0 (tabS tb most o b Ls ++ X) w) (hL : Ls 0 = L) (hok : OkT L) (k : Str) (hk : Ks.okKey k = true) {s : Str} (hg : get k L = some s) :
  Calls Tryz.prog 62 #[ptrV tb, .string ⟨k.toArray⟩] w (Looked w (decT s)) := by
 have hs : Sorted L := by rw [← hL]; exact own_tsorted 0 (by omega) h
 have HR := Lib.hid (rows_any h)
 have HG := Lib.hid (own_tget 0 (by omega) k h)
 rw [hL, show getC k L = 0 by unfold getC cdel; rw [okTk_key hk, hg]; rfl, show getO k L = s by unfold getO oldS; rw [okTk_key hk, hg]; rfl] at HG
 have HD := Lib.hid (fun (V : World) (a : Option Addr) (c : Nat) (hr : RdB V a c s) => decode_of hok hs hg hr)
 obtain ⟨_, _, _, hl⟩ := row_of hok hs hg
 obtain ⟨⟨r0, r1, r2, r3⟩, hr4⟩ : ∃ r, decT s = r := ⟨_, rfl⟩
 rw [hr4] at HD ⊢
 clear h hL hg hok hs hr4
 go_enter Tryz.func62, Tryz.ntmps62
 go_wp2_with (first
  | (go_at_call 53; refine HR.out.mono ?_; rintro e V ⟨rfl, rfl⟩)
  | (go_at_call 90; refine HG.out.mono ?_; rintro e V ⟨rfl, hb⟩; have HB := Lib.hid hb; clear hb)
  | (refine wpList_conv rfl (.tmp 19) 9 129 5 rfl s (by unfold maxLen; omega) Tryz.underlying9 Tryz.underlying129 Tryz.underlying5 rfl ?_; intro a3 c3 w3 hr hb; have H3 := Lib.hid (And.intro hr (HB.out.trans (hb.mono HB.out.size))); clear hr hb)
  | (go_at_call 81; refine (HD.out _ _ _ H3.out.1).mono ?_; rintro e V4 ⟨rfl, hb⟩; have H4 := Lib.hid (H3.out.2.trans (hb.mono H3.out.2.size)); clear hb))
 go_ret
 refine ⟨_, rfl, fun i hi => ?_, H4.out.trans ((Rw.al1 V4 _).mono H4.out.size), H4.out.size, by simp, fun i hi => ?_⟩
 ·have h1 := Rw.RowAt.made V4 r0 r1 r2 r3 41 i hi
  rwa [Nat.zero_add] at h1
 ·have : i = 0 ∨ i = 1 ∨ i = 2 ∨ i = 3 := by omega
  rcases this with rfl | rfl | rfl | rfl <;> simp
end
end Tb
end Go.Proofs.YtecnijnmgdfdhaaGreat

namespace Go.Proofs.YtecnijnmgdfdhaaGreat
namespace Tb
open Go.RowKit Tr
open Ky (less)
open Rw (Chg chgV chgs chgAt chgCol keepB)
theorem chg_at {w : World} {a : Option Addr} {n c : Nat} {k : List UInt8} {L : List Chg} (h : Rd w 4 a n c (chgV k L)) {j : Nat} {x : Chg} (hj : L[j]? = some x) :
  ∃ b o, a = some ⟨b, o, none⟩ ∧ w.cell? ⟨b, o + j * 4, none⟩ = some (.int .i64 (x.1 : Int)) ∧ w.cell? ⟨b, o + j * 4 + 1, none⟩ = some (.int .i64 x.2.1) ∧ w.cell? ⟨b, o + j * 4 + 2, none⟩ = some (.string ⟨k.toArray⟩) ∧ w.cell? ⟨b, o + j * 4 + 3, none⟩ = some (.bool x.2.2) := by
 have get : ∀ (L : List Chg) (j : Nat), L[j]? = some x → (chgV k L)[j * 4]? = some (.int .i64 (x.1 : Int)) ∧ (chgV k L)[j * 4 + 1]? = some (.int .i64 x.2.1) ∧ (chgV k L)[j * 4 + 2]? = some (.string ⟨k.toArray⟩) ∧ (chgV k L)[j * 4 + 3]? = some (.bool x.2.2) := by
  intro L
  induction L with
  | nil => intro j h; simp at h
  | cons y L ih =>
   intro j h
   have e : chgV k (y :: L) = .int .i64 (y.1 : Int) :: .int .i64 y.2.1 :: .string ⟨k.toArray⟩ :: .bool y.2.2 :: chgV k L := rfl
   match j, h with
   | 0, h => simp at h; subst h; rw [e]; simp
   | j + 1, h =>
    have h1 := ih j (by simpa using h)
    rw [e, show (j + 1) * 4 = j * 4 + 1 + 1 + 1 + 1 by omega, show j * 4 + 1 + 1 + 1 + 1 + 1 = (j * 4 + 1) + 1 + 1 + 1 + 1 by omega, show j * 4 + 1 + 1 + 1 + 1 + 2 = (j * 4 + 2) + 1 + 1 + 1 + 1 by omega, show j * 4 + 1 + 1 + 1 + 1 + 3 = (j * 4 + 3) + 1 + 1 + 1 + 1 by omega]
    simp only [List.getElem?_cons_succ]
    exact h1
 obtain ⟨g0, g1, g2, g3⟩ := get L j hj
 obtain ⟨b, o, rfl, hc⟩ := h.addr (by intro h0; rw [h0] at g0; simp at g0)
 exact ⟨b, o, rfl, hc _ _ g0, hc _ _ g1, hc _ _ g2, hc _ _ g3⟩
def stepC (k : Str) (Ls : Nat → List Pr) (x : Chg) : Nat → List Pr := upd Ls (x.1 + 1) (if x.2.2 = true then putL (Ky.put x.2.1 k) [] (Ls (x.1 + 1)) else delL (Ky.put x.2.1 k) (Ls (x.1 + 1)))
def applyC (k : Str) (cs : List Chg) (Ls : Nat → List Pr) : Nat → List Pr := cs.foldl (stepC k) Ls
theorem applyC_append (k : Str) (A C : List Chg) (Ls : Nat → List Pr) : applyC k (A ++ C) Ls = applyC k C (applyC k A Ls) := List.foldl_append
theorem put_len {k : Str} (h : Ks.okKey k = true) (v : Int) : okTk (Ky.put v k) = true := by
 have := of_decide_eq_true h
 have h2 : (Ky.put v k).length = 8 + k.length := by unfold Ky.put; rw [List.length_append, Ky.enc_length]
 exact decide_eq_true (by omega)
theorem putL_key {k : Str} (h : Ks.okKey k = true) (v : Int) (I : List Pr) : putL (Ky.put v k) [] I = ins (Ky.put v k, []) I := by
 unfold putL; rw [put_len h]; rfl
theorem delL_key {k : Str} (h : Ks.okKey k = true) (v : Int) (I : List Pr) : delL (Ky.put v k) I = del (Ky.put v k) I := by
 unfold delL; rw [put_len h]; rfl
theorem step_len (k : Str) (Ls : Nat → List Pr) (x : Chg) (i : Nat) : (stepC k Ls x i).length ≤ (Ls i).length + 1 := by
 unfold stepC upd
 by_cases e : i = x.1 + 1
 ·rw [if_pos e, e]
  split
  ·unfold putL
   split
   ·rw [ins_len]; split <;> omega
   ·omega
  ·unfold delL
   split
   ·have := del_len (Ky.put x.2.1 k) (Ls (x.1 + 1)); split at this <;> omega
   ·omega
 ·rw [if_neg e]; omega
theorem applyC_len (k : Str) (cs : List Chg) : ∀ (Ls : Nat → List Pr) (i : Nat), (applyC k cs Ls i).length ≤ (Ls i).length + cs.length := by
 induction cs with
 | nil => intro Ls i; exact Nat.le_refl _
 | cons x cs ih =>
  intro Ls i
  have h1 := ih (stepC k Ls x) i
  have h2 := step_len k Ls x i
  rw [List.length_cons]
  show (applyC k cs (stepC k Ls x) i).length ≤ _
  omega
theorem applyC_at {k : Str} (hk : Ks.okKey k = true) (f g : Option R4) (n : Nat) (Ls : Nat → List Pr) : applyC k (chgAt n (f.map col) (g.map col)) Ls = upd Ls (n + 1) (turnC n k f g (Ls (n + 1))) := by
 funext i
 by_cases e : i = n + 1
 ·subst e
  cases f with
  | none =>
   cases g with
   | none => simp [chgAt, keepB, chgCol, applyC, upd, turnC, keepC, turnI]
   | some s => simp [chgAt, keepB, chgCol, applyC, stepC, upd, turnC, keepC, turnI, putL_key hk]
  | some r =>
   cases g with
   | none => simp [chgAt, keepB, chgCol, applyC, stepC, upd, turnC, keepC, turnI, delL_key hk]
   | some s =>
    by_cases hq : col r n = col s n
    ·simp [chgAt, keepB, chgCol, applyC, upd, turnC, keepC, turnI, hq]
    ·simp [chgAt, keepB, chgCol, applyC, stepC, upd, turnC, keepC, turnI, hq, putL_key hk, delL_key hk]
 ·cases f with
  | none =>
   cases g with
   | none => simp [chgAt, keepB, chgCol, applyC, upd, e]
   | some s => simp [chgAt, keepB, chgCol, applyC, stepC, upd, e]
  | some r =>
   cases g with
   | none => simp [chgAt, keepB, chgCol, applyC, stepC, upd, e]
   | some s =>
    by_cases hq : col r n = col s n
    ·simp [chgAt, keepB, applyC, upd, e, hq]
    ·simp [chgAt, keepB, chgCol, applyC, stepC, upd, e, hq]
theorem applyC_all {k : Str} (hk : Ks.okKey k = true) (f g : Option R4) (Ls : Nat → List Pr) : ∀ n, applyC k (chgs n (f.map col) (g.map col)) Ls = fun i => if 1 ≤ i ∧ i ≤ n then turnC (i - 1) k f g (Ls i) else Ls i
 | 0 => by
  funext i
  rw [if_neg (by omega)]
  rfl
 | n + 1 => by
  rw [Rw.chgs_succ, applyC_append, applyC_all hk f g Ls n, applyC_at hk]
  funext i
  unfold upd
  by_cases e : i = n + 1
  ·subst e
   have e1 : (if 1 ≤ n + 1 ∧ n + 1 ≤ n then turnC (n + 1 - 1) k f g (Ls (n + 1)) else Ls (n + 1)) = Ls (n + 1) := if_neg (by omega)
   rw [if_pos rfl, if_pos (show 1 ≤ n + 1 ∧ n + 1 ≤ n + 1 by omega)]
   show turnC n k f g (if 1 ≤ n + 1 ∧ n + 1 ≤ n then turnC (n + 1 - 1) k f g (Ls (n + 1)) else Ls (n + 1)) = _
   rw [e1]
   rfl
  ·rw [if_neg e]
   show (if 1 ≤ i ∧ i ≤ n then turnC (i - 1) k f g (Ls i) else Ls i) = _
   by_cases h : 1 ≤ i ∧ i ≤ n
   ·rw [if_pos h, if_pos (by omega)]
   ·rw [if_neg h, if_neg (by omega)]
theorem chg_in {f g : Option R4} (hf : ∀ r, f = some r → In4 r) (hg : ∀ r, g = some r → In4 r) : ∀ n, ∀ x ∈ chgs n (f.map col) (g.map col), x.1 < n ∧ Ky.In x.2.1
 | 0 => fun x hx => by simp [chgs] at hx
 | n + 1 => fun x hx => by
  rw [Rw.chgs_succ] at hx
  rcases List.mem_append.1 hx with hx | hx
  ·have := chg_in hf hg n x hx
   exact ⟨by omega, this.2⟩
  ·unfold chgAt at hx
   split at hx
   ·cases hx
   ·unfold chgCol at hx
    rcases List.mem_append.1 hx with hx | hx
    ·cases f with
     | none => simp at hx
     | some r =>
      simp at hx
      subst hx
      exact ⟨by simp, hf r rfl n⟩
    ·cases g with
     | none => simp at hx
     | some r =>
      simp at hx
      subst hx
      exact ⟨by simp, hg r rfl n⟩
theorem tabS_congr {tb most o : Nat} {b : Nat → Nat} {Ls Ms : Nat → List Pr} (h : ∀ i, i < 5 → Ls i = Ms i) : tabS tb most o b Ls = tabS tb most o b Ms := by
 unfold tabS trees5
 rw [h 0 (by omega), h 1 (by omega), h 2 (by omega), h 3 (by omega), h 4 (by omega)]
section
variable {B : Nat} {w0 w : World} {X : List Rs} {tb most o : Nat} {b : Nat → Nat} {Ls : Nat → List Pr} {L : List Pr}
set_option maxHeartbeats 4000000 in
set_option maxRecDepth 100000 in
theorem turn_any (h : Own B w0 (tabS tb most o b Ls ++ X) w) (hLs : ∀ i, (Ls i).length ≤ 50000) (k : Str) (hk : Ks.okKey k = true) (p q : Option (Nat × Nat)) (f g : Option R4) (hf : ∀ r, f = some r → In4 r) (hg : ∀ r, g = some r → In4 r) (hp : Rw.PtrAt w p (f.map col)) (hq : Rw.PtrAt w q (g.map col)) :
  Calls Tryz.prog 70 #[ptrV tb, .string ⟨k.toArray⟩, Rw.ptrV p, Rw.ptrV q] w fun e V => (∃ v, e = .returned v) ∧ Own B w0 (tabS tb most o b (fun i => if 1 ≤ i ∧ i ≤ 4 then turnC (i - 1) k f g (Ls i) else Ls i) ++ X) V := by
 have HC := Lib.hid (Rw.changes_good k hk p q (f.map col) (g.map col) w hp hq)
 have HE := Lib.hid (applyC_all hk f g Ls 4)
 have HIn := Lib.hid (chg_in hf hg 4)
 have HCl := Lib.hid (Rw.chgs_len 4 (f.map col) (g.map col))
 unfold Rw.GivesC at HC
 obtain ⟨cs, hcs⟩ : ∃ cs, chgs 4 (f.map col) (g.map col) = cs := ⟨_, rfl⟩
 rw [hcs] at HC HE HIn HCl
 have HO := Lib.hid h
 have HK := Lib.hid hk
 have HB := Lib.hid hLs
 clear h hk hf hg hp hq hcs hLs
 go_enter Tryz.func70, Tryz.ntmps70
 go_wp2
 go_step3
 go_wp2_with (go_at_call 98; refine HC.out.mono ?_; rintro e V ⟨a, c, rfl, hL⟩; have H1 := Lib.hid ((own_loc HO.out hL).perm (List.perm_middle (l₁ := tabS tb most o b Ls)).symm); clear hL)
 go_step3
 go_wp2
 obtain ⟨n, hn⟩ : ∃ n, cs.length = n := ⟨_, rfl⟩
 have HN := Lib.hid hn
 rw [hn] at HCl H1 ⊢
 have hn8 : n ≤ 8 := HCl.out
 clear hn
 go_loopw [23] (fun i wr => ∃ (j : Nat), j ≤ n ∧ i = .int .i64 j ∧ Hid (Own B w0 (tabS tb most o b (applyC k (cs.take j) Ls) ++ SlR 4 a n c (chgV k cs) :: X) wr)) (fun i _ => n - (intOf i).toNat)
 case atStart => exact ⟨0, by omega, rfl, Lib.hid H1.out⟩
 case round =>
  obtain ⟨j, hj, rfl, HJ⟩ := hrel
  have k0 : (0 : Int) ≤ (j : Int) := by omega
  by_cases hlt : j < n
  ·have k1 : (j : Int) < (n : Int) := by omega
   obtain ⟨⟨i, v, ad⟩, hx⟩ : ∃ x, cs[j]? = some x := ⟨_, List.getElem?_eq_getElem (by rw [HN.out]; exact hlt)⟩
   obtain ⟨cb, co, hca, m0, m1, m2, m3⟩ := chg_at (own_rd (HJ.out.perm (List.perm_middle (l₁ := tabS tb most o b (applyC k (cs.take j) Ls))))) hx
   subst hca
   obtain ⟨hi4, hv⟩ := HIn.out _ (List.mem_of_getElem? hx)
   simp only at m0 m1 m2 m3 hi4 hv
   have HTk : Hid (cs.take (j + 1) = cs.take j ++ [(i, v, ad)]) := Lib.hid (by rw [List.take_add_one, hx]; rfl)
   have HKP := Lib.hid (fun W => Ks.put_good v hv k W HK.out)
   have HLen : Hid ((applyC k (cs.take j) Ls (i + 1)).length ≤ 100000) := Lib.hid (by
    have h1 := applyC_len k (cs.take j) Ls (i + 1)
    have h2 := HB.out (i + 1)
    rw [List.length_take] at h1
    omega)
   have hbx := al1 wr (.cells #[.int .i64 i, .int .i64 v, .string ⟨k.toArray⟩, .bool ad] 182)
   have HM : Hid (∀ V, Below (wr.alloc (.cells #[.int .i64 i, .int .i64 v, .string ⟨k.toArray⟩, .bool ad] 182)).heap.size (wr.alloc (.cells #[.int .i64 i, .int .i64 v, .string ⟨k.toArray⟩, .bool ad] 182)) V → V.cell? ⟨wr.heap.size, 0, none⟩ = some (.int .i64 i) ∧ V.cell? ⟨wr.heap.size, 3, none⟩ = some (.bool ad) ∧ Below wr.heap.size wr V) := Lib.hid (fun V hb => ⟨old_cell (by simp) hb, old_cell (by simp) hb, hbx.trans (hb.mono hbx.size)⟩)
   have HIx := Lib.hid (fun V (hb : Below wr.heap.size wr V) => index_any i hi4 (HJ.out.later hb))
   have HP := Lib.hid (fun V (hb : Below wr.heap.size wr V) => own_tput (i + 1) (by omega) (Ky.put v k) [] (HJ.out.later hb) HLen.out)
   have HD := Lib.hid (fun V (hb : Below wr.heap.size wr V) => own_tdel (i + 1) (by omega) (Ky.put v k) (HJ.out.later hb) HLen.out)
   clear hx hbx hv
   cases ad with
   | true =>
    go_wp2_with (first
     | (go_at_call 91; refine (HKP.out _).mono ?_; rintro e V2 ⟨rfl, hb⟩; obtain ⟨y0, y3, hb2⟩ := HM.out _ hb; have H2 := Lib.hid hb2; clear hb hb2)
     | (go_at_call 57; refine (HIx.out _ H2.out).mono ?_; rintro e V3 ⟨rfl, rfl⟩)
     | (go_at_call 68; refine (HP.out _ H2.out).mono ?_; rintro e V4 ⟨rfl, h4⟩; have H4 := Lib.hid h4; clear h4))
    go_roundw
    case rel =>
     refine ⟨j + 1, by omega, by go_num, Lib.hid ?_⟩
     rw [HTk.out, applyC_append]
     exact H4.out
    case measure => simp [intOf]; omega
   | false =>
    go_wp2_with (first
     | (go_at_call 91; refine (HKP.out _).mono ?_; rintro e V2 ⟨rfl, hb⟩; obtain ⟨y0, y3, hb2⟩ := HM.out _ hb; have H2 := Lib.hid hb2; clear hb hb2)
     | (go_at_call 57; refine (HIx.out _ H2.out).mono ?_; rintro e V3 ⟨rfl, rfl⟩)
     | (go_at_call 71; refine (HD.out _ H2.out).mono ?_; rintro e V4 ⟨rfl, h4⟩; have H4 := Lib.hid h4; clear h4))
    go_roundw
    case rel =>
     refine ⟨j + 1, by omega, by go_num, Lib.hid ?_⟩
     rw [HTk.out, applyC_append]
     exact H4.out
    case measure => simp [intOf]; omega
  ·obtain rfl : j = n := by omega
   have k1 : ¬ (j : Int) < (j : Int) := by omega
   go_wp2
   go_end0
   refine ⟨⟨_, rfl⟩, ?_⟩
   have h := HJ.out
   rw [List.take_of_length_le (by rw [HN.out]; exact Nat.le_refl _), HE.out] at h
   exact (h.perm (List.perm_middle (l₁ := tabS tb most o b _))).drop
end
end Tb
end Go.Proofs.YtecnijnmgdfdhaaGreat
