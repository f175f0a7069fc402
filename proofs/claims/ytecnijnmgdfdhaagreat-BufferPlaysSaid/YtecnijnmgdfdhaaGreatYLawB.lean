/- Joined: Tblaw6, Tblaw7. -/
import Derived.Test.YtecnijnmgdfdhaaGreatYLawA
namespace Go.Proofs.YtecnijnmgdfdhaaGreat
namespace Tb
open Tr
open Ky (less)
theorem less_enc_put {v lo : Int} (hv : Ky.In v) (hlo : Ky.In lo) (k : Str) : less (Ky.put v k) (Ky.enc lo) = decide (v < lo) := by
 have := Ky.less_append (Ky.enc v) (Ky.enc lo) k [] (by rw [Ky.enc_length, Ky.enc_length])
 rw [List.append_nil] at this
 unfold Ky.put
 rw [this, Ky.less_nil_right, Bool.and_false, Bool.or_false, Ky.less_enc hv hlo]
theorem inR_put {v lo hi : Int} (hv : Ky.In v) (hlo : Ky.In lo) (hhi : Ky.In hi) (k s : Str) : inR (Ky.enc lo) (Ks.bend hi) (Ky.put v k, s) = decide (lo ≤ v ∧ v ≤ hi) := by
 unfold inR
 simp only [less_enc_put hv hlo]
 unfold Ks.bend
 split
 next h =>
  have hne : Ky.enc (hi + 1) ≠ [] := fun e => by have := Ky.enc_length (hi + 1); rw [e] at this; cases this
  simp only [less_enc_put hv (show Ky.In (hi + 1) by unfold Ky.In at *; omega), hne]
  by_cases h1 : lo ≤ v
  ·by_cases h2 : v ≤ hi
   ·have a1 : ¬ v < lo := by omega
    have a2 : v < hi + 1 := by omega
    simp [a1, a2, h1, h2]
   ·have a1 : ¬ v < lo := by omega
    have a2 : ¬ v < hi + 1 := by omega
    simp [a1, a2, h1, h2]
  ·have a1 : v < lo := by omega
   simp [a1, h1]
 next h =>
  have h2 : v ≤ hi := by unfold Ky.In at *; omega
  by_cases h1 : lo ≤ v
  ·have a1 : ¬ v < lo := by omega
   simp [a1, h1, h2]
  ·have a1 : v < lo := by omega
   simp [a1, h1]
theorem hits_filter {L : List Pr} (h : OkT L) (c : Nat) {lo hi : Int} (hlo : Ky.In lo) (hhi : Ky.In hi) : hits c lo hi L = (idx c L).filter fun p => decide (lo ≤ vOf p.1 ∧ vOf p.1 ≤ hi) := by
 unfold hits Tr.rng
 refine List.filter_congr (fun p hp => ?_)
 obtain ⟨v, k, hv, hk, e⟩ := h.ents c hp
 obtain ⟨pk, ps⟩ := p
 simp only at e
 subst e
 rw [inR_put hv hlo hhi, vOf_put hv]
theorem idx_row {L : List Pr} (h : OkT L) (hs : Sorted L) {c : Nat} {q : Pr} (hq : q ∈ idx c L) : ∃ p ∈ L, kOf q.1 = p.1 ∧ vOf q.1 = col (decT p.2) c ∧ get p.1 L = some p.2 := by
 obtain ⟨_, p, hp, e⟩ := mem_idx.1 hq
 refine ⟨p, hp, ?_, ?_, get_of hs hp⟩
 ·rw [← e]; exact kOf_put _ _
 ·rw [← e]; exact vOf_put (h.col hp c) _
theorem idx_of {L : List Pr} (h : OkT L) {c : Nat} {p : Pr} (hp : p ∈ L) : (ent c p, ([] : Str)) ∈ idx c L ∧ kOf (ent c p) = p.1 ∧ vOf (ent c p) = col (decT p.2) c :=
 ⟨mem_idx.2 ⟨rfl, p, hp, rfl⟩, kOf_put _ _, vOf_put (h.col hp c) _⟩
theorem idx_order {L : List Pr} (h : OkT L) {c : Nat} {p q : Pr} (hp : p ∈ idx c L) (hq : q ∈ idx c L) (hl : less p.1 q.1 = true) : vOf p.1 < vOf q.1 ∨ (vOf p.1 = vOf q.1 ∧ less (kOf p.1) (kOf q.1) = true) := by
 obtain ⟨v, k, hv, hk, e⟩ := h.ents c hp
 obtain ⟨v', k', hv', hk', e'⟩ := h.ents c hq
 rw [e, e', Ky.put_less hv hv'] at hl
 rw [e, e', vOf_put hv, vOf_put hv', kOf_put, kOf_put]
 have hl := of_decide_eq_true hl
 unfold Ky.cmpE at hl
 split at hl
 ·exact .inl (by assumption)
 ·split at hl
  ·omega
  ·exact .inr ⟨by omega, Ky.cmpS_neg.1 hl⟩
theorem parted {α : Type} (q : α → Bool) : ∀ {l : List α}, l.Pairwise (fun a b => q b = true → q a = true) → l = l.filter q ++ l.filter (fun x => !q x)
 | [], _ => rfl
 | x :: l, h => by
  have h' := List.pairwise_cons.1 h
  cases hx : q x with
  | true =>
   rw [List.filter_cons_of_pos hx, List.filter_cons_of_neg (by simp [hx]), List.cons_append, ← parted q h'.2]
  | false =>
   have hall : ∀ y ∈ l, q y = false := fun y hy => by
    cases hy' : q y with
    | false => rfl
    | true => have := h'.1 y hy hy'; rw [hx] at this; cases this
   rw [List.filter_cons_of_neg (by simp [hx]), List.filter_cons_of_pos (by simp [hx])]
   rw [List.filter_eq_nil_iff.2 (fun y hy => by simp [hall y hy]), List.nil_append]
   rw [List.filter_eq_self.2 (fun y hy => by simp [hall y hy])]
def keysOf (l : List Pr) : List Str := l.map fun p => kOf p.1
end Tb
end Go.Proofs.YtecnijnmgdfdhaaGreat

namespace Go.Proofs.YtecnijnmgdfdhaaGreat
namespace Tb
open Go.RowKit Tr
open Ky (less)
section
variable {B : Nat} {w0 w V : World} {X Y : List Rs} {tb r most o : Nat} {L : List Pr}
theorem own_findR (c : Nat) (hc : c < 4) (lo hi : Int) (h1 : Ky.In lo) (h2 : Ky.In hi) (hl : ¬ hi < lo) (m : Nat) (h : Own B w0 (TabR tb most o L :: X) w) :
  Calls Tryz.prog 27 #[ptrV tb, .int .i64 c, .int .i64 lo, .int .i64 hi, .int .i64 m] w fun e V => ∃ (a : Option Addr) (k : Nat), e = .returned (.tuple #[.slice a ((keysOf (hits c lo hi L)).take m).length k, .int .i64 0]) ∧ Own B w0 (SlR 1 a ((keysOf (hits c lo hi L)).take m).length k (textsV ((keysOf (hits c lo hi L)).take m)) :: TabR tb most o L :: X) V := by
 refine (own_tabFind c hc lo hi h1 h2 hl m h).mono ?_
 rintro e V ⟨a, k, rfl, hl⟩
 rw [keysV_texts] at hl
 have e1 : ((hits c lo hi L).take m).map (fun p => kOf p.1) = (keysOf (hits c lo hi L)).take m := by unfold keysOf; rw [List.map_take]
 have e2 : ((hits c lo hi L).take m).length = ((keysOf (hits c lo hi L)).take m).length := by rw [← e1, List.length_map]
 rw [e1, e2] at hl
 exact ⟨a, k, by rw [e2], own_loc h hl⟩
end
end Tb
end Go.Proofs.YtecnijnmgdfdhaaGreat
