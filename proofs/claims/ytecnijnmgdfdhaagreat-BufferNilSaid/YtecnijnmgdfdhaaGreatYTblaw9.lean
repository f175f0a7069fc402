/- Joined: Tblaw9. -/
import Derived.Test.YtecnijnmgdfdhaaGreatYLawB
import Derived.Test.YtecnijnmgdfdhaaGreatYTr
/- The laws of package table, plain: what is put is found, and then not any more; two calls of two keys leave the same rows. -/
namespace Go.Proofs.YtecnijnmgdfdhaaGreat
namespace Tb
open Go.RowKit Tr
open Ky (less)
section
variable {L M : List Pr} {k j : Str} {q : R4} {most : Nat}
theorem put_at (hk : Ks.okKey k = true) (hq : In4 q) : getE k (ins (k, encT q) L) = 0 ∧ getR k (ins (k, encT q) L) = q := by
  unfold getE getR
  rw [hk, get_ins]
  exact ⟨rfl, decT_encT hq⟩
theorem found_in (ok : OkT L) (hp : (k, encT q) ∈ L) (hq : In4 q) (c : Nat) : k ∈ keysOf (hits c (col q c) (col q c) L) := by
  obtain ⟨h1, h2, h3⟩ := idx_of ok hp (c := c)
  have hv := ok.col hp c
  rw [decT_encT hq] at h3 hv
  unfold keysOf
  rw [hits_filter ok c hv hv]
  exact List.mem_map.2 ⟨(ent c (k, encT q), []), List.mem_filter.2 ⟨h1, by simp [h3]⟩, h2⟩
theorem found_out (ok : OkT L) (hs : Sorted L) (hn : ∀ p ∈ L, p.1 ≠ k) (c : Nat) {v : Int} (hv : Ky.In v) : ¬ k ∈ keysOf (hits c v v L) := by
  intro h
  unfold keysOf at h
  obtain ⟨x, hx, e⟩ := List.mem_map.1 h
  rw [hits_filter ok c hv hv] at hx
  obtain ⟨p, hp, e1, _⟩ := idx_row ok hs (List.mem_filter.1 hx).1
  exact hn p hp (by rw [← e1]; exact e)
/-- What Put, and Delete, and Put of the row that was there, leave. -/
theorem put_back (ok : OkT L) (hs : Sorted L) (hlen : L.length ≤ most) (hk : Ks.okKey k = true) (hb : putB k L = true) : putT k (getR k L) most (delT k (ins (k, encT q) L)) = L := by
  unfold putB at hb
  rw [hk] at hb
  obtain ⟨s, hg⟩ := Option.isSome_iff_exists.1 (by simpa using hb)
  have hr : getR k L = decT s := by unfold getR; rw [hk, hg]; rfl
  have he := (ok.got hg hs).2
  have h3 : delT k (ins (k, encT q) L) = del k (ins (k, encT q) L) := by unfold delT; rw [hk]; rfl
  rw [h3, hr]
  have h4 := ins_del_ins (v := encT q) hs hg
  have h5 : get k (del k (ins (k, encT q) L)) = none := get_del (hs.ins _) k
  have h6 := ins_len (k, s) (del k (ins (k, encT q) L))
  rw [h4, h5] at h6
  have h7 : putE k most (del k (ins (k, encT q) L)) = 0 := by
    unfold putE
    rw [hk, h5, decide_eq_false (by simp at h6; omega)]
    rfl
  unfold putT
  rw [if_pos h7, he, h4]
theorem put_gone (hk : Ks.okKey k = true) (hb : putB k L = false) : delT k (ins (k, encT q) L) = L := by
  unfold putB at hb
  rw [hk] at hb
  have hg : get k L = none := by cases h : get k L with
    | none => rfl
    | some s => rw [h] at hb; cases hb
  unfold delT
  rw [hk, if_pos rfl, del_ins_none hg]
/-- What a call leaves, where there is room. -/
def actT (x : OpT) (L : List Pr) : List Pr := if Ks.okKey x.2.1 then (if x.1 = 0 then rowsTo x.2.1 (some x.2.2) L else if x.1 = 1 then rowsTo x.2.1 none L else L) else L
theorem step_act (x : OpT) (hl : L.length < most) : stepT most x L = actT x L := by
  have hE : putE x.2.1 most L = if Ks.okKey x.2.1 then 0 else 13 := by
    unfold putE
    rw [decide_eq_false (by omega), Bool.and_false]
    rfl
  unfold stepT actT putT delT
  rw [hE]
  cases Ks.okKey x.2.1 <;> simp [rowsTo]
theorem act_sorted (x : OpT) (hs : Sorted L) : Sorted (actT x L) := by
  unfold actT
  split
  · split
    · exact rowsTo_sorted hs _ _
    · split
      · exact rowsTo_sorted hs _ _
      · exact hs
  · exact hs
theorem rowsTo_len (k : Str) (now : Option R4) (L : List Pr) : (rowsTo k now L).length ≤ L.length + 1 := by
  cases now with
  | none => have := del_len k L; show (del k L).length ≤ _; omega
  | some r =>
    have := ins_len (k, encT r) L
    show (ins (k, encT r) L).length ≤ _
    split at this <;> omega
theorem act_len (x : OpT) (L : List Pr) : (actT x L).length ≤ L.length + 1 := by
  unfold actT
  split
  · split
    · exact rowsTo_len _ _ _
    · split
      · exact rowsTo_len _ _ _
      · omega
  · omega
theorem rowsTo_get (hs : Sorted L) (hj : j ≠ k) (now : Option R4) : get j (rowsTo k now L) = get j L := by
  cases now with
  | none => exact get_del_other hs hj
  | some r => exact get_ins_other hs hj
theorem act_get (x : OpT) (hs : Sorted L) (hj : j ≠ x.2.1) : get j (actT x L) = get j L := by
  unfold actT
  split
  · split
    · exact rowsTo_get hs hj _
    · split
      · exact rowsTo_get hs hj _
      · rfl
  · rfl
theorem rowsTo_two (hs : Sorted L) (hj : j ≠ k) (a b : Option R4) : rowsTo j a (rowsTo k b L) = rowsTo k b (rowsTo j a L) := by
  refine sorted_ext (rowsTo_sorted (rowsTo_sorted hs _ _) _ _) (rowsTo_sorted (rowsTo_sorted hs _ _) _ _) (fun p => ?_)
  rw [mem_rowsTo (rowsTo_sorted hs _ _), mem_rowsTo hs, mem_rowsTo (rowsTo_sorted hs _ _), mem_rowsTo hs]
  constructor
  · rintro (⟨r, e, rfl⟩ | ⟨⟨r, e, rfl⟩ | ⟨h1, h2⟩, h3⟩)
    · exact .inr ⟨.inl ⟨r, e, rfl⟩, hj⟩
    · exact .inl ⟨r, e, rfl⟩
    · exact .inr ⟨.inr ⟨h1, h3⟩, h2⟩
  · rintro (⟨r, e, rfl⟩ | ⟨⟨r, e, rfl⟩ | ⟨h1, h2⟩, h3⟩)
    · exact .inr ⟨.inl ⟨r, e, rfl⟩, fun e => hj e.symm⟩
    · exact .inl ⟨r, e, rfl⟩
    · exact .inr ⟨.inr ⟨h1, h3⟩, h2⟩
theorem act_two (x y : OpT) (hs : Sorted L) (hj : x.2.1 ≠ y.2.1) : actT x (actT y L) = actT y (actT x L) := by
  unfold actT
  cases Ks.okKey x.2.1 <;> cases Ks.okKey y.2.1 <;> simp only [if_pos, if_neg, Bool.false_eq_true, if_false, if_true]
  by_cases h1 : x.1 = 0 <;> by_cases h2 : y.1 = 0 <;> by_cases h3 : x.1 = 1 <;> by_cases h4 : y.1 = 1 <;> simp [h1, h2, h3, h4] <;> exact rowsTo_two hs hj _ _
/-- What a call answers: its row, whether there was one, and what is wrong. -/
def ansT (most : Nat) (x : OpT) (L : List Pr) : R4 × Bool × Int := if x.1 = 0 then (getR x.2.1 L, putB x.2.1 L, putE x.2.1 most L) else (getR x.2.1 L, false, getE x.2.1 L)
theorem ans_two (x y : OpT) (hs : Sorted L) (hj : x.2.1 ≠ y.2.1) (hl : L.length + 2 ≤ most) : ansT most x (actT y L) = ansT most x L := by
  have hg := act_get y hs hj
  have h1 := act_len y L
  unfold ansT getR putB putE getE
  rw [hg, decide_eq_false (show ¬ most ≤ (actT y L).length by omega), decide_eq_false (show ¬ most ≤ L.length by omega)]
end
end Tb
end Go.Proofs.YtecnijnmgdfdhaaGreat
