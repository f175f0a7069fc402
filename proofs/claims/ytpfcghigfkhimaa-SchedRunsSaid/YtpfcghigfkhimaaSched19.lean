/- The plain law of SchedRuns: what picks do to who does what, and to what is ready. -/
import Derived.Test.YtpfcghigfkhimaaSched15
namespace Go.Proofs.Ytpfcghigfkhimaa
open Go.RowKit

theorem busy_take (st : List (Option Int)) (k : Nat) (hk : k ≤ st.length) : busyL st k = (st.take k).filterMap id := by
  induction k with
  | zero => rfl
  | succ k ih =>
    have hx : st[k]? = some st[k] := List.getElem?_eq_getElem (by omega)
    rw [busyL, ih (by omega), List.take_add_one, hx, look_of hx, List.filterMap_append]
    cases st[k] <;> rfl
theorem busy_all (st : List (Option Int)) : busyL st st.length = st.filterMap id := by
  rw [busy_take st st.length (Nat.le_refl _), List.take_length]
theorem busy_set (st : List (Option Int)) (i : Nat) (o p : Option Int) (hp : st[i]? = some p) :
    ∃ P Q, busyL st st.length = P ++ p.toList ++ Q ∧ busyL (st.set i o) st.length = P ++ o.toList ++ Q := by
  have hi := (List.getElem?_eq_some_iff.1 hp).1
  have h1 : st.set i o = st.take i ++ [o] ++ st.drop (i + 1) := by
    rw [List.set_eq_take_append_cons_drop, if_pos hi]; simp
  have h2 : st = st.take i ++ [p] ++ st.drop (i + 1) := by
    conv => lhs; rw [← List.take_append_drop i st, List.drop_eq_getElem_cons hi]
    rw [(List.getElem?_eq_some_iff.1 hp).2]
    simp
  refine ⟨(st.take i).filterMap id, (st.drop (i + 1)).filterMap id, ?_, ?_⟩
  · rw [busy_all]
    conv => lhs; rw [h2]
    rw [List.filterMap_append, List.filterMap_append]
    cases p <;> rfl
  · have := busy_all (st.set i o)
    rw [List.length_set] at this
    rw [this, h1, List.filterMap_append, List.filterMap_append]
    cases o <;> rfl
theorem mem_fin (st : List (Option Int)) (k : Nat) (x : ActT) : x ∈ finL st k ↔ ∃ i : Nat, i < k ∧ ∃ d, look st (i : Int) = some d ∧ x = (3, (i : Int), d) := by
  induction k with
  | zero => simp [finL]
  | succ k ih =>
    rw [finL, List.mem_append, ih]
    constructor
    · rintro (⟨i, h1, d, h2⟩ | h)
      · exact ⟨i, by omega, d, h2⟩
      · cases hl : look st (k : Int) with
        | none => rw [hl] at h; cases h
        | some d =>
          rw [hl] at h
          rw [List.mem_singleton] at h
          exact ⟨k, by omega, d, hl, h⟩
    · rintro ⟨i, h1, d, h2, h3⟩
      by_cases hi : i = k
      · subst hi
        rw [h2]
        exact .inr (List.mem_singleton.2 h3)
      · exact .inl ⟨i, by omega, d, h2, h3⟩
theorem mem_idle (st : List (Option Int)) (k : Nat) (x : Int) : x ∈ idleL st k ↔ ∃ i : Nat, i < k ∧ look st (i : Int) = none ∧ x = (i : Int) := by
  induction k with
  | zero => simp [idleL]
  | succ k ih =>
    rw [idleL, List.mem_append, ih]
    constructor
    · rintro (⟨i, h1, h2⟩ | h)
      · exact ⟨i, by omega, h2⟩
      · split at h
        · exact ⟨k, by omega, ‹_›, List.mem_singleton.1 h⟩
        · cases h
    · rintro ⟨i, h1, h2, h3⟩
      by_cases hi : i = k
      · subst hi
        rw [if_pos h2]
        exact .inr (List.mem_singleton.2 h3)
      · exact .inl ⟨i, by omega, h2, h3⟩
theorem mem_starts (il seen r : List Int) (x : ActT) (h : x ∈ startsL il seen r) : ∃ v ∈ il, ∃ d ∈ r, d ∉ seen ∧ x = (2, v, d) := by
  induction r generalizing seen with
  | nil => cases h
  | cons y r ih =>
    rw [startsL] at h
    split at h
    · obtain ⟨v, hv, d, hd, h1, h2⟩ := ih seen h
      exact ⟨v, hv, d, List.mem_cons_of_mem _ hd, h1, h2⟩
    · rename_i hc
      rcases List.mem_append.1 h with h | h
      · unfold startsOf at h
        obtain ⟨v, hv, rfl⟩ := List.mem_map.1 h
        exact ⟨v, hv, y, List.mem_cons_self .., by simpa using hc, rfl⟩
      · obtain ⟨v, hv, d, hd, h1, h2⟩ := ih _ h
        exact ⟨v, hv, d, List.mem_cons_of_mem _ hd, fun h3 => h1 (List.mem_append.2 (.inl h3)), h2⟩
/-- Which acts there are. -/
theorem mem_acts {st : List (Option Int)} {n : Nat} {ready : List Int} {x : ActT} (h : x ∈ actsL st n false ready) :
    (∃ (i : Nat) (d : Int), i < n ∧ look st (i : Int) = none ∧ d ∈ ready ∧ d ∉ busyL st n ∧ x = (2, (i : Int), d)) ∨ ∃ (i : Nat) (d : Int), i < n ∧ look st (i : Int) = some d ∧ x = (3, (i : Int), d) := by
  unfold actsL at h
  rcases List.mem_append.1 h with h | h
  · rcases List.mem_append.1 h with h | h
    · cases h
    · obtain ⟨v, hv, d, hd, h1, h2⟩ := mem_starts _ _ _ _ h
      obtain ⟨i, hi, h3, rfl⟩ := (mem_idle _ _ _).1 hv
      exact .inl ⟨i, d, hi, h3, hd, h1, h2⟩
  · obtain ⟨i, hi, d, h1, h2⟩ := (mem_fin _ _ _).1 h
    exact .inr ⟨i, d, hi, h1, h2⟩
theorem acts_some {st : List (Option Int)} {n : Nat} {ready : List Int} (hn : 1 ≤ n) (hr : ready ≠ []) : 1 ≤ (actsL st n false ready).length := by
  have h1 := idle_fin_len st n
  by_cases hf : (finL st n).length = 0
  · have hb : busyL st n = [] := List.eq_nil_of_length_eq_zero (by rw [(finL_len st n).2]; exact hf)
    cases ready with
    | nil => exact absurd rfl hr
    | cons y r =>
      unfold actsL
      rw [hb, startsL]
      simp [startsOf]
      omega
  · unfold actsL
    rw [List.length_append]
    omega

theorem nodup_mid (P Q : List Int) (d : Int) : (P ++ d :: Q).Nodup ↔ d ∉ P ++ Q ∧ (P ++ Q).Nodup := by
  rw [List.perm_middle.nodup_iff, List.nodup_cons]
/-- Where the runs stand: st the workers, ready the numbers, q acts done. -/
structure Pn (st : List (Option Int)) (n m : Nat) (ready : List Int) (done q : Nat) (S : List Int) : Prop where
  len : st.length = n
  nd : ready.Nodup
  rg : ∀ x ∈ ready, 0 ≤ x ∧ x < m
  cnt : done + ready.length = m
  bnd : (busyL st n).Nodup
  sub : ∀ x ∈ busyL st n, x ∈ ready
  act : q = 2 * done + (busyL st n).length
  sl : S.length = m
  sta : ∀ i : Nat, i < m → S[i]? = some (if (i : Int) ∈ ready ∧ (i : Int) ∉ busyL st n then 0 else 1)
section
variable {st : List (Option Int)} {n m done q : Nat} {ready S : List Int}
theorem Pn.busy (h : Pn st n m ready done q S) : (busyL st n).length ≤ ready.length := h.bnd.length_le_of_subset (fun x hx => h.sub x hx)
theorem Pn.few (h : Pn st n m ready done q S) : q ≤ 2 * m := by
  have := h.busy
  have := h.cnt
  have := h.act
  omega
theorem Pn.start (h : Pn st n m ready done q S) {i : Nat} {d : Int} (hi : i < n) (hl : look st (i : Int) = none) (hd : d ∈ ready) (hb : d ∉ busyL st n) :
    ∃ j : Nat, d = (j : Int) ∧ j < m ∧ S[j]? = some 0 ∧ some d ∉ st ∧ Pn (st.set i (some d)) n m ready done (q + 1) (S.set j 1) := by
  obtain ⟨h1, h2⟩ := h.rg d hd
  have hlen := h.len
  have hx : st[i]? = some none := by
    have e : st[i]? = some st[i] := List.getElem?_eq_getElem (by omega)
    rw [look_of e] at hl
    rw [e, hl]
  obtain ⟨P, Q, e1, e2⟩ := busy_set st i (some d) none hx
  rw [hlen] at e1 e2
  simp only [Option.toList_none, List.append_nil, Option.toList_some, List.append_assoc, List.singleton_append] at e1 e2
  refine ⟨d.toNat, by omega, by omega, ?_, ?_, ?_⟩
  · have := h.sta d.toNat (by omega)
    rw [Int.toNat_of_nonneg h1, if_pos ⟨hd, hb⟩] at this
    exact this
  · intro hm
    apply hb
    rw [← hlen, ← List.contains_iff_mem, busy_contains]
    simpa using hm
  · have hm : ∀ x, x ∈ busyL (st.set i (some d)) n ↔ x = d ∨ x ∈ busyL st n := fun x => by
      rw [e1, e2]; simp only [List.mem_append, List.mem_cons]
      constructor
      · rintro (h | h | h)
        · exact .inr (.inl h)
        · exact .inl h
        · exact .inr (.inr h)
      · rintro (h | h | h)
        · exact .inr (.inl h)
        · exact .inl h
        · exact .inr (.inr h)
    refine ⟨by rw [List.length_set, hlen], h.nd, h.rg, h.cnt, ?_, fun x hx => ?_, ?_, by rw [List.length_set, h.sl], fun k hk => ?_⟩
    · rw [e2, nodup_mid, ← e1]
      exact ⟨hb, h.bnd⟩
    · rcases (hm x).1 hx with rfl | hx
      · exact hd
      · exact h.sub x hx
    · have := h.act
      rw [e1, List.length_append] at this
      rw [e2, List.length_append, List.length_cons]
      omega
    · by_cases hkd : k = d.toNat
      · subst hkd
        rw [List.getElem?_set_self (by rw [h.sl]; omega), Int.toNat_of_nonneg h1, if_neg (fun h3 => h3.2 ((hm d).2 (.inl rfl)))]
      · rw [List.getElem?_set_ne (Ne.symm hkd), h.sta k hk]
        congr 1
        have : (k : Int) ∉ busyL (st.set i (some d)) n ↔ (k : Int) ∉ busyL st n := not_congr ((hm _).trans (or_iff_right (by omega)))
        simp only [this]
theorem Pn.finish (h : Pn st n m ready done q S) {i : Nat} {d : Int} (hi : i < n) (hl : look st (i : Int) = some d) :
    (∃ j : Nat, d = (j : Int) ∧ j < m) ∧ Pn (st.set i none) n m (ready.filter (· ≠ d)) (done + 1) (q + 1) S := by
  have hlen := h.len
  have hx : st[i]? = some (some d) := by
    have e : st[i]? = some st[i] := List.getElem?_eq_getElem (by omega)
    rw [look_of e] at hl
    rw [e, hl]
  obtain ⟨P, Q, e1, e2⟩ := busy_set st i none (some d) hx
  rw [hlen] at e1 e2
  simp only [Option.toList_none, List.append_nil, Option.toList_some, List.append_assoc, List.singleton_append] at e1 e2
  have hdb : d ∈ busyL st n := by rw [e1]; simp
  have hd := h.sub d hdb
  obtain ⟨h1, h2⟩ := h.rg d hd
  have hnd := h.bnd
  rw [e1, nodup_mid, ← e2] at hnd
  have hm : ∀ x, x ∈ busyL st n ↔ x = d ∨ x ∈ busyL (st.set i none) n := fun x => by
    rw [e1, e2]; simp only [List.mem_append, List.mem_cons]
    constructor
    · rintro (h | h | h)
      · exact .inr (.inl h)
      · exact .inl h
      · exact .inr (.inr h)
    · rintro (h | h | h)
      · exact .inr (.inl h)
      · exact .inl h
      · exact .inr (.inr h)
  refine ⟨⟨d.toNat, by omega, by omega⟩, by rw [List.length_set, hlen], h.nd.filter _, fun x hx => h.rg x (List.mem_filter.1 hx).1, ?_, hnd.2, fun x hxb => ?_, ?_, h.sl, fun k hk => ?_⟩
  · have hc := h.cnt
    have : (ready.filter (· ≠ d)).length + 1 = ready.length := by
      have e3 := List.length_erase_of_mem hd
      have e4 := h.nd.erase_eq_filter d
      have e5 := List.length_pos_of_mem hd
      have e6 : ready.filter (fun x => decide (x ≠ d)) = ready.filter (fun x => x != d) := List.filter_congr (fun x _ => by by_cases h : x = d <;> simp [h])
      rw [e6, ← e4, e3]
      omega
    omega
  · refine List.mem_filter.2 ⟨h.sub x ((hm x).2 (.inr hxb)), ?_⟩
    simp only [decide_eq_true_eq]
    intro e
    exact hnd.1 (e ▸ hxb)
  · have := h.act
    rw [e1, List.length_append, List.length_cons] at this
    rw [e2, List.length_append]
    omega
  · rw [h.sta k hk]
    congr 1
    by_cases hkd : (k : Int) = d
    · rw [hkd, if_neg (fun h3 => h3.2 hdb), if_neg (fun h3 => by have := (List.mem_filter.1 h3.1).2; simp at this)]
    · have a1 : (k : Int) ∈ ready.filter (fun x => decide (x ≠ d)) ↔ (k : Int) ∈ ready := by
        rw [List.mem_filter]
        simp [hkd]
      have a2 : (k : Int) ∉ busyL st n ↔ (k : Int) ∉ busyL (st.set i none) n := not_congr ((hm _).trans (or_iff_right hkd))
      simp only [a1, a2]
theorem Pn.over (h : Pn st n m ready done q S) (hd : ¬ done < m) : q = 2 * m ∧ (idleL st n).length = n ∧ actsL st n false [] = [] := by
  have hc := h.cnt
  have hr : ready = [] := List.eq_nil_of_length_eq_zero (by omega)
  have hb : busyL st n = [] := by
    cases hbz : busyL st n with
    | nil => rfl
    | cons x l => have := h.sub x (by rw [hbz]; simp); rw [hr] at this; cases this
  have ha := h.act
  have h1 := idle_fin_len st n
  have h2 := (finL_len st n).2
  rw [hb] at ha h2
  have hf : finL st n = [] := List.eq_nil_of_length_eq_zero h2.symm
  rw [hf] at h1
  simp at ha h1
  refine ⟨by omega, h1, ?_⟩
  unfold actsL
  rw [hf]
  rfl
end
end Go.Proofs.Ytpfcghigfkhimaa
