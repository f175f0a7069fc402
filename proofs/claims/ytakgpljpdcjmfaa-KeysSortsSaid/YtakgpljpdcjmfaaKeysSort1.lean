/- Rows of entries: cells, sortedness; a slice of entries that comes in. -/
import Derived.Test.YtakgpljpdcjmfaaKeysLaws1
import Derived.Test.YtakgpljpdcjmfaaOpenS
import Derived.Test.YtakgpljpdcjmfaaOpenE
namespace Go.Proofs.Ytakgpljpdcjmfaa
open Go.RowKit Go.ChangeShapes Go.WideShapes

abbrev Ent := Int × List UInt8
/-- Entries, as cells. -/
def cellsE (L : List Ent) : List Value := L.flatMap fun e => [.int .i64 e.1, .string ⟨e.2.toArray⟩]
/-- Their bytes, as cells. -/
def cellsS (L : List Ent) : List Value := L.map fun e => .string ⟨(Ky.put e.1 e.2).toArray⟩
theorem cellsE_cons (e : Ent) (L : List Ent) : cellsE (e :: L) = .int .i64 e.1 :: .string ⟨e.2.toArray⟩ :: cellsE L := rfl
theorem cellsE_length (L : List Ent) : (cellsE L).length = L.length * 2 := by
  induction L with
  | nil => rfl
  | cons e L ih => rw [cellsE_cons, List.length_cons, List.length_cons, ih, List.length_cons]; omega
theorem cellsS_length (L : List Ent) : (cellsS L).length = L.length := by simp [cellsS]
theorem cellsE_append (L M : List Ent) : cellsE (L ++ M) = cellsE L ++ cellsE M := by simp [cellsE]
theorem cellsS_append (L M : List Ent) : cellsS (L ++ M) = cellsS L ++ cellsS M := by simp [cellsS]
theorem cellsE_get {L : List Ent} {k : Nat} {e : Ent} (h : L[k]? = some e) : (cellsE L)[k * 2]? = some (.int .i64 e.1) ∧ (cellsE L)[k * 2 + 1]? = some (.string ⟨e.2.toArray⟩) := by
  induction L generalizing k with
  | nil => simp at h
  | cons d L ih =>
    match k, h with
    | 0, h => simp at h; subst h; simp [cellsE_cons]
    | k + 1, h =>
      have h1 := ih (k := k) (by simpa using h)
      rw [cellsE_cons, show (k + 1) * 2 = k * 2 + 1 + 1 by omega, List.getElem?_cons_succ, List.getElem?_cons_succ, List.getElem?_cons_succ, List.getElem?_cons_succ]
      exact h1
theorem cellsS_get {L : List Ent} {k : Nat} {e : Ent} (h : L[k]? = some e) : (cellsS L)[k]? = some (.string ⟨(Ky.put e.1 e.2).toArray⟩) := by simp [cellsS, h]
theorem cellsE_take (L : List Ent) (n : Nat) : (cellsE L).take (n * 2) = cellsE (L.take n) := by
  induction L generalizing n with
  | nil => simp [cellsE]
  | cons e L ih =>
    match n with
    | 0 => simp [cellsE]
    | n + 1 => rw [cellsE_cons, show (n + 1) * 2 = n * 2 + 1 + 1 by omega, List.take_succ_cons, List.take_succ_cons, ih, List.take_succ_cons, cellsE_cons]
theorem cellsE_drop (L : List Ent) (n : Nat) : (cellsE L).drop (n * 2) = cellsE (L.drop n) := by
  induction L generalizing n with
  | nil => simp [cellsE]
  | cons e L ih =>
    match n with
    | 0 => simp
    | n + 1 => rw [cellsE_cons, show (n + 1) * 2 = n * 2 + 1 + 1 by omega, List.drop_succ_cons, List.drop_succ_cons, ih, List.drop_succ_cons]
theorem cellsS_take (L : List Ent) (n : Nat) : (cellsS L).take n = cellsS (L.take n) := by simp [cellsS]
theorem cellsS_drop (L : List Ent) (n : Nat) : (cellsS L).drop n = cellsS (L.drop n) := by simp [cellsS]
theorem cellsE_one (L : List Ent) : ∀ u ∈ cellsE L, u.oneCell' = true := by
  intro u hu
  obtain ⟨e, _, h⟩ := List.mem_flatMap.1 hu
  simp only [List.mem_cons, List.not_mem_nil, or_false] at h
  rcases h with rfl | rfl <;> rfl
theorem cellsS_one (L : List Ent) : ∀ u ∈ cellsS L, u.oneCell' = true := by
  intro u hu
  obtain ⟨e, _, rfl⟩ := List.mem_map.1 hu
  rfl

/-- An entry of a row, where it lies. -/
theorem rdE_at {w : World} {a : Option Addr} {n c : Nat} {L : List Ent} (h : Rd w 2 a n c (cellsE L)) {k : Nat} {e : Ent} (hk : L[k]? = some e) :
    ∃ b o, a = some ⟨b, o, none⟩ ∧ w.cell? ⟨b, o + k * 2, none⟩ = some (.int .i64 e.1) ∧ w.cell? ⟨b, o + k * 2 + 1, none⟩ = some (.string ⟨e.2.toArray⟩) := by
  obtain ⟨b, o, h1, h2⟩ := h.addr (by
    intro h0
    have := (cellsE_get hk).1
    rw [h0] at this
    simp at this)
  exact ⟨b, o, h1, h2 _ _ (cellsE_get hk).1, h2 _ _ (cellsE_get hk).2⟩
/-- A row of entries whose bytes rise. -/
def leE (a b : Ent) : Prop := Ky.cmpE a.1 a.2 b.1 b.2 ≤ 0
theorem less_trans {a b c : List UInt8} (h1 : Ky.less a b = true) (h2 : Ky.less b c = true) : Ky.less a c = true := by
  induction a generalizing b c with
  | nil =>
    match b, c, h2 with
    | [], _, _ => simp [Op.bytesLess] at h1
    | _ :: _, _ :: _, _ => rfl
  | cons x a ih =>
    match b, c, h1, h2 with
    | y :: b, z :: c, h1, h2 =>
      simp only [Op.bytesLess, Bool.or_eq_true, decide_eq_true_eq, Bool.and_eq_true, beq_iff_eq, UInt8.lt_iff_toNat_lt] at *
      rcases h1 with h1 | ⟨rfl, h1⟩
      · rcases h2 with h2 | ⟨rfl, h2⟩
        · exact .inl (by omega)
        · exact .inl h1
      · rcases h2 with h2 | ⟨rfl, h2⟩
        · exact .inl h2
        · exact .inr ⟨rfl, ih h1 h2⟩
theorem leE_of_bytes {a b : Ent} (ha : Ky.In a.1) (hb : Ky.In b.1) : leE a b ↔ Ky.less (Ky.put b.1 b.2) (Ky.put a.1 a.2) = false := by
  rw [Ky.put_less hb ha, decide_eq_false_iff_not, Ky.cmpE_swap a.1 a.2 b.1 b.2]
  unfold leE
  omega
theorem leE_trans {a b c : Ent} (ha : Ky.In a.1) (hb : Ky.In b.1) (hc : Ky.In c.1) (h1 : leE a b) (h2 : leE b c) : leE a c := by
  rw [leE_of_bytes ha hb] at h1
  rw [leE_of_bytes hb hc] at h2
  rw [leE_of_bytes ha hc]
  generalize Ky.put a.1 a.2 = x at *
  generalize Ky.put b.1 b.2 = y at *
  generalize Ky.put c.1 c.2 = z at *
  by_cases h : Ky.less z x = true
  · rcases Ky.less_trich x y with rfl | h3 | h3
    · rw [h] at h2; cases h2
    · have := less_trans h h3; rw [this] at h2; cases h2
    · rw [h3] at h1; cases h1
  · simpa using h
/-- What the sort's rows are. -/
structure Rises (L : List Ent) : Prop where
  all : ∀ e ∈ L, Ky.In e.1 ∧ okKey e.2 = true
  le : L.Pairwise leE
theorem Rises.nil : Rises [] := ⟨(fun _ h => by cases h), List.Pairwise.nil⟩
/-- An entry that is put behind those that are not ahead of it. -/
theorem Rises.insert {L : List Ent} (h : Rises L) {x : Ent} (hx : Ky.In x.1 ∧ okKey x.2 = true) {n : Nat} (hn : n ≤ L.length) (hle : ∀ e ∈ L.take n, leE e x) (hend : ∀ e, L[n]? = some e → ¬ leE e x) :
    Rises (L.take n ++ [x] ++ L.drop n) := by
  have hd : ∀ e ∈ L.drop n, leE x e := by
    intro e he
    by_cases hnl : n < L.length
    · have hm := hend L[n] (List.getElem?_eq_getElem hnl)
      have hL : L[n] ∈ L := List.getElem_mem hnl
      have h1 : leE x L[n] := by
        rw [leE_of_bytes hx.1 (h.all _ hL).1]
        rw [leE_of_bytes (h.all _ hL).1 hx.1] at hm
        have : Ky.less (Ky.put x.1 x.2) (Ky.put L[n].1 L[n].2) = true := by simpa using hm
        exact Ky.less_asymm this
      rw [List.drop_eq_getElem_cons hnl] at he
      rcases List.mem_cons.1 he with rfl | he
      · exact h1
      · have hp : (L.drop n).Pairwise leE := h.le.drop
        rw [List.drop_eq_getElem_cons hnl] at hp
        have h2 := (List.pairwise_cons.1 hp).1 e he
        exact leE_trans hx.1 (h.all _ hL).1 (h.all _ (List.mem_of_mem_drop he)).1 h1 h2
    · rw [List.drop_of_length_le (by omega)] at he
      cases he
  refine ⟨fun e he => ?_, ?_⟩
  · simp only [List.append_assoc, List.mem_append, List.mem_singleton] at he
    rcases he with he | rfl | he
    · exact h.all e (List.mem_of_mem_take he)
    · exact hx
    · exact h.all e (List.mem_of_mem_drop he)
  · rw [List.append_assoc, List.pairwise_append]
    refine ⟨h.le.take, ?_, ?_⟩
    · rw [List.singleton_append, List.pairwise_cons]
      exact ⟨hd, h.le.drop⟩
    · intro a ha b hb
      rcases List.mem_append.1 hb with hb | hb
      · rw [List.mem_singleton] at hb
        subst hb
        exact hle a ha
      · exact leE_trans (h.all _ (List.mem_of_mem_take ha)).1 hx.1 (h.all _ (List.mem_of_mem_drop hb)).1 (hle a ha) (hd b hb)
theorem Rises.at {L : List Ent} (h : Rises L) {i k : Nat} {x y : Ent} (hk : k < i) (hx : L[k]? = some x) (hy : L[i]? = some y) : leE x y := by
  have hi := (List.getElem?_eq_some_iff.1 hy)
  have hkk := (List.getElem?_eq_some_iff.1 hx)
  obtain ⟨h1, rfl⟩ := hi
  obtain ⟨h2, rfl⟩ := hkk
  exact List.pairwise_iff_getElem.1 h.le k i h2 h1 hk

section
variable {H : Type} {enc : TypeId × Value → H} {w : World} {base : Nat} {spare : Nat → Bool} {held : Bool}
theorem open_entries {a : Option Addr} {len cap : Nat} {d : DataW H} {p : List MemPlace} (h : DataW.Trod enc Try.prog w base spare held 43 (.slice a len cap) d p) :
    ∃ L : List Ent, len = L.length ∧ Rd w 2 a L.length cap (cellsE L) ∧ ∀ e ∈ L, Ky.In e.1 := by
  obtain ⟨fuel, hf⟩ := h
  rcases open_rows Try.underlying43 Try.underlying23 (by kernel_rfl) entryCells hf with ⟨rfl, rfl, rfl⟩ | ⟨x, rfl, hl, hm, hc⟩
  · exact ⟨[], rfl, Rd.nilSlice w 2, fun _ h => by cases h⟩
  · have one : ∀ i, ∃ e : Ent, i < len → w.cell? (x.add (i * 2)) = some (.int .i64 e.1) ∧ w.cell? (x.add (i * 2 + 1)) = some (.string ⟨e.2.toArray⟩) ∧ Ky.In e.1 := by
      intro i
      by_cases hi : i < len
      · obtain ⟨v0, y0, n0, c0, t0⟩ := hc i hi 0 _ rfl
        obtain ⟨v1, y1, n1, c1, t1⟩ := hc i hi 1 _ rfl
        obtain ⟨z, e0, _, hw⟩ := DataW.trod_int Try.underlying3 t0
        obtain ⟨s, e1, _, hs⟩ := DataW.trod_string Try.underlying9 t1
        obtain rfl : v0 = _ := List.singleton_inj.1 e0
        obtain rfl : v1 = _ := List.singleton_inj.1 e1
        refine ⟨(z, s.data.toList), fun _ => ⟨c0, ?_, in_of_wf hw⟩⟩
        rw [← text_list s]
        exact c1
      · exact ⟨(0, []), fun h => absurd h hi⟩
    let f := fun i => (one i).choose
    have hf : ∀ i, i < len → w.cell? (x.add (i * 2)) = some (.int .i64 (f i).1) ∧ w.cell? (x.add (i * 2 + 1)) = some (.string ⟨(f i).2.toArray⟩) ∧ Ky.In (f i).1 := fun i => (one i).choose_spec
    have hlen : ((List.range len).map f).length = len := by simp
    refine ⟨(List.range len).map f, hlen.symm, ?_, ?_⟩
    · rw [hlen]
      refine ⟨by rw [cellsE_length, hlen], hl, hm, (fun h => by cases h), fun y hy j u hu => ?_, cellsE_one _⟩
      cases hy
      have hj : j < len * 2 := by
        have := (List.getElem?_eq_some_iff.1 hu).1
        rwa [cellsE_length, hlen] at this
      have hg : ((List.range len).map f)[j / 2]? = some (f (j / 2)) := by
        rw [List.getElem?_map, List.getElem?_range (by omega)]; rfl
      have hgg := cellsE_get hg
      have hfj := hf (j / 2) (by omega)
      rcases Nat.mod_two_eq_zero_or_one j with h2 | h2
      · have hje : j = j / 2 * 2 := by omega
        rw [hje] at hu ⊢
        rw [hgg.1] at hu
        rw [← hu]
        exact hfj.1
      · have hje : j = j / 2 * 2 + 1 := by omega
        rw [hje] at hu ⊢
        rw [hgg.2] at hu
        rw [← hu]
        exact hfj.2.1
    · intro e he
      obtain ⟨i, hi, rfl⟩ := List.mem_map.1 he
      exact (hf i (List.mem_range.1 hi)).2.2
end
end Go.Proofs.Ytakgpljpdcjmfaa
