/- A set of numbers that a call makes; acts, as plain lists. -/
import Derived.Test.YtpfcghigfkhimaaSched4
import Derived.Maps.OwnSet
namespace Go.Proofs.Ytpfcghigfkhimaa
open Go.RowKit Go.Maps

def litI (i : Int) : Lit := .int .i64 i
/-- Block b is a set of these numbers. -/
def ISet (w : World) (b : Nat) (ids : List Int) : Prop :=
  (∃ n, n ≤ ids.length ∧ w.ownsMap (H := Unit) Try.prog 3 unitElem b n (setOf (.agg []) (ids.map litI))) ∧ ∀ i ∈ ids, (Lit.int .i64 i).wf = true
theorem keyedI : Keyed Try.prog 3 := int_keyed Try.underlying3
theorem ISet.lt {w : World} {b : Nat} {ids : List Int} (h : ISet w b ids) : b < w.heap.size := by
  obtain ⟨⟨n, _, h⟩, _⟩ := h
  exact h.lt
theorem ISet.fr {S : Foot} {w w' : World} {b : Nat} {ids : List Int} (h : ISet w b ids) (hf : Fr S w w') (hs : ∀ o, ¬ S b o) : ISet w' b ids := by
  have hl := h.lt
  obtain ⟨⟨n, hn, es, clock, hb, r⟩, hw⟩ := h
  exact ⟨⟨n, hn, es, clock, (hf.block b hl hs).trans hb, r⟩, hw⟩
theorem ISet.made (w : World) : ISet (w.alloc (.map #[] 0)) w.heap.size [] := ⟨⟨0, Nat.le_refl _, World.ownsMap_made _ _ _ _⟩, fun _ h => by cases h⟩
theorem zeroU (w : World) : (zeroValue 66).run Try.prog w = .ok (.agg #[]) w := by kernel_rfl
theorem any_lit (ids : List Int) (i : Int) : (ids.map litI).any (fun x => x.sameKey (.int .i64 i)) = ids.contains i := by
  induction ids with
  | nil => rfl
  | cons j ids ih =>
    rw [List.map_cons, List.any_cons, List.contains_cons, ih]
    congr 1
    by_cases e : j = i
    · subst e; simp [litI, Lit.sameKey]
    · have : ¬ i = j := fun h => e h.symm
      simp [litI, Lit.sameKey, e, this]
theorem ISet.look {w : World} {b : Nat} {ids : List Int} (h : ISet w b ids) {i : Int} (hi : (Lit.int .i64 i).wf = true) (r : Bool) (hr : ids.contains i = r) :
    (Instr.lookup 65 (.map (some b)) (.int .i64 i) true).run Try.prog w = .ok (.tuple #[.agg #[], .bool r]) w := by
  obtain ⟨⟨n, hn, ho⟩, hw⟩ := h
  obtain ⟨v, ps, hrun, hR⟩ := ho.look_ok keyedI Try.underlying65 (zeroU w) unitElem_mk (keyOf_int_mk Try.underlying3 hi)
  obtain ⟨rfl, _⟩ := unitElem_inv hR
  rw [hrun, has_setOf _ _ _ (fun x hx => by
    obtain ⟨j, hj, rfl⟩ := List.mem_map.1 hx
    exact trivial), ← hr]
  rw [any_lit]
theorem wpList_put_iset {w : World} {ops : Array Oper} {rest : List Oper} {o : Oper} {a : Act} {Q : Exit → Act → World → Prop} (hg : o.guard = none) (m x v : Operand)
    (hop : o.op = Op.mapUpdate 65 m x v) (b : Nat) (ids : List Int) (i : Int) (hm : a.eval m = .map (some b)) (hx : a.eval x = .int .i64 i) (hv : a.eval v = .agg #[])
    (h : ISet w b ids) (hi : (Lit.int .i64 i).wf = true) (hn : ids.length < 1000000)
    (hK : ∀ w', ISet w' b (ids ++ [i]) → Fr (fun k _ => k = b) w w' → wpList Try.prog ops Q rest (a.put o.dst undef) w') : wpList Try.prog ops Q (o :: rest) a w := by
  obtain ⟨⟨n, hn', ho⟩, hw⟩ := h
  refine wpList_mapUpdate_own w hg m x v 65 hop 3 66 keyedI Try.underlying65 unitElem b n _ hm ho (by unfold maxLen; omega) _ _ _ hx hv (keyOf_int_mk Try.underlying3 hi) (.agg []) [] unitElem_mk ?_
  intro w' h2 hg2
  refine hK w' ⟨⟨n + 1, by rw [List.length_append]; simp; omega, ?_⟩, fun j hj => ?_⟩ ((Fr.grown hg2).mono (fun k _ e => by cases e; rfl))
  · rw [List.map_append, List.map_singleton, setOf_snoc]
    exact h2
  · rcases List.mem_append.1 hj with h3 | h3
    · exact hw j h3
    · rw [List.mem_singleton] at h3; subst h3; exact hi

/-- An act: kind, worker, number. -/
abbrev ActT := Int × Int × Int
def actsV (L : List ActT) : List Value := L.flatMap fun x => [.int .i64 x.1, .int .i64 x.2.1, .int .i64 x.2.2]
theorem actsV_append (L M : List ActT) : actsV (L ++ M) = actsV L ++ actsV M := by simp [actsV]
theorem actsV_one (L : List ActT) : ∀ u ∈ actsV L, u.oneCell' = true := by
  intro u hu
  obtain ⟨e, _, h⟩ := List.mem_flatMap.1 hu
  simp only [List.mem_cons, List.not_mem_nil, or_false] at h
  rcases h with rfl | rfl | rfl <;> rfl
theorem act_made (w : World) (k v i : Int) (t : TypeId) : Rd (w.alloc (.cells #[.int .i64 k, .int .i64 v, .int .i64 i] t)) 3 (some ⟨w.heap.size, 0, none⟩) 1 1 (actsV [(k, v, i)]) :=
  Rd.made w (actsV [(k, v, i)]) t 3 1 rfl (by decide) (actsV_one _) (0, 0)
theorem act_at {w : World} {a : Option Addr} {n c : Nat} {L : List ActT} (h : Rd w 3 a n c (actsV L)) {j : Nat} {x : ActT} (hj : L[j]? = some x) :
    ∃ b o, a = some ⟨b, o, none⟩ ∧ w.cell? ⟨b, o + j * 3, none⟩ = some (.int .i64 x.1) ∧ w.cell? ⟨b, o + j * 3 + 1, none⟩ = some (.int .i64 x.2.1) ∧ w.cell? ⟨b, o + j * 3 + 2, none⟩ = some (.int .i64 x.2.2) := by
  have get : ∀ (L : List ActT) (j : Nat), L[j]? = some x → (actsV L)[j * 3]? = some (.int .i64 x.1) ∧ (actsV L)[j * 3 + 1]? = some (.int .i64 x.2.1) ∧ (actsV L)[j * 3 + 2]? = some (.int .i64 x.2.2) := by
    intro L
    induction L with
    | nil => intro j h; simp at h
    | cons y L ih =>
      intro j h
      have e : actsV (y :: L) = .int .i64 y.1 :: .int .i64 y.2.1 :: .int .i64 y.2.2 :: actsV L := rfl
      match j, h with
      | 0, h => simp at h; subst h; rw [e]; simp
      | j + 1, h =>
        have h1 := ih j (by simpa using h)
        rw [e, show (j + 1) * 3 = j * 3 + 1 + 1 + 1 by omega, show j * 3 + 1 + 1 + 1 + 1 = (j * 3 + 1) + 1 + 1 + 1 by omega, show j * 3 + 1 + 1 + 1 + 2 = (j * 3 + 2) + 1 + 1 + 1 by omega]
        simp only [List.getElem?_cons_succ]
        exact h1
  obtain ⟨g0, g1, g2⟩ := get L j hj
  obtain ⟨b, o, rfl, hc⟩ := h.addr (by intro h0; rw [h0] at g0; simp at g0)
  exact ⟨b, o, rfl, hc _ _ g0, hc _ _ g1, hc _ _ g2⟩
/-- Who does something, of the first k: the acts, the numbers. -/
def finL (st : List (Option Int)) : Nat → List ActT
  | 0 => []
  | k + 1 => finL st k ++ (match look st (k : Int) with | some d => [(3, (k : Int), d)] | none => [])
def busyL (st : List (Option Int)) : Nat → List Int
  | 0 => []
  | k + 1 => busyL st k ++ (match look st (k : Int) with | some d => [d] | none => [])
def startsOf (idle : List Int) (id : Int) : List ActT := idle.map fun v => (2, v, id)
def startsL (idle : List Int) : List Int → List Int → List ActT
  | _, [] => []
  | seen, id :: r => if seen.contains id then startsL idle seen r else startsOf idle id ++ startsL idle (seen ++ [id]) r
/-- All acts. -/
def actsL (st : List (Option Int)) (n : Nat) (admit : Bool) (ready : List Int) : List ActT :=
  (if admit then [(1, 0, 0)] else []) ++ startsL (idleL st n) (busyL st n) ready ++ finL st n
theorem finL_len (st : List (Option Int)) (k : Nat) : (finL st k).length ≤ k ∧ (busyL st k).length = (finL st k).length := by
  induction k with
  | zero => simp [finL, busyL]
  | succ k ih =>
    rw [finL, busyL, List.length_append, List.length_append]
    cases look st (k : Int) <;> simp <;> omega
theorem idle_fin_len (st : List (Option Int)) (k : Nat) : (idleL st k).length + (finL st k).length = k := by
  induction k with
  | zero => simp [finL, idleL]
  | succ k ih =>
    rw [finL, idleL, List.length_append, List.length_append]
    cases h : look st (k : Int) <;> simp [h] <;> omega
theorem startsL_len (idle : List Int) (seen ready : List Int) : (startsL idle seen ready).length ≤ idle.length * ready.length := by
  induction ready generalizing seen with
  | nil => simp [startsL]
  | cons id r ih =>
    rw [startsL, List.length_cons, Nat.mul_succ]
    split
    · have := ih seen; omega
    · rw [List.length_append]
      have := ih (seen ++ [id])
      unfold startsOf
      rw [List.length_map]
      omega
end Go.Proofs.Ytpfcghigfkhimaa
