/- Memory by footprints: which cells a call may touch ('Fr'), and slices that are owned with their spare room ('Sl'), wherever they lie in a block. Over any program. -/
import Derived.Test.YtgoegdlhbadlfaaDoorOwn
import Derived.ArgAppend
import Derived.Deep.Upon
import Derived.Deep.MidRow
namespace Go.Proofs.YtgoegdlhbadlfaaDoor
open Go.RowKit

/-- Cells: block, offset. -/
abbrev Foot := Nat → Nat → Prop
abbrev noCells : Foot := fun _ _ => False
/-- From w to w' nothing that was there has turned but the cells of S. -/
structure Fr (S : Foot) (w w' : World) : Prop where
  os : w'.os = w.os
  tape : w'.tape = w.tape
  output : w'.output = w.output
  size : w.heap.size ≤ w'.heap.size
  block : ∀ k, k < w.heap.size → (∀ o, ¬ S k o) → w'.heap[k]? = w.heap[k]?
  cell : ∀ k o, k < w.heap.size → ¬ S k o → w'.cell? ⟨k, o, none⟩ = w.cell? ⟨k, o, none⟩
  froz : ∀ k o, k < w.heap.size → ¬ S k o → w'.frozen? ⟨k, o, none⟩ = w.frozen? ⟨k, o, none⟩

theorem Fr.refl (S : Foot) (w : World) : Fr S w w := ⟨rfl, rfl, rfl, Nat.le_refl _, fun _ _ _ => rfl, fun _ _ _ _ => rfl, fun _ _ _ _ => rfl⟩
theorem Fr.trans {S S' : Foot} {w w1 w2 : World} (h : Fr S w w1) (k : Fr S' w1 w2) (hs : ∀ b o, S' b o → S b o ∨ w.heap.size ≤ b) : Fr S w w2 := by
  have ns : ∀ b o, b < w.heap.size → ¬ S b o → ¬ S' b o := fun b o hb hn h' => by
    rcases hs b o h' with h1 | h1
    · exact hn h1
    · omega
  refine ⟨k.os.trans h.os, k.tape.trans h.tape, k.output.trans h.output, Nat.le_trans h.size k.size, fun b hb hn => ?_, fun b o hb hn => ?_, fun b o hb hn => ?_⟩
  · exact (k.block b (Nat.lt_of_lt_of_le hb h.size) (fun o => ns b o hb (hn o))).trans (h.block b hb hn)
  · exact (k.cell b o (Nat.lt_of_lt_of_le hb h.size) (ns b o hb hn)).trans (h.cell b o hb hn)
  · exact (k.froz b o (Nat.lt_of_lt_of_le hb h.size) (ns b o hb hn)).trans (h.froz b o hb hn)
theorem Fr.mono {S S' : Foot} {w w' : World} (h : Fr S w w') (hs : ∀ b o, S b o → S' b o) : Fr S' w w' :=
  ⟨h.os, h.tape, h.output, h.size, fun b hb hn => h.block b hb (fun o h' => hn o (hs b o h')), fun b o hb hn => h.cell b o hb (fun h' => hn (hs b o h')), fun b o hb hn => h.froz b o hb (fun h' => hn (hs b o h'))⟩
theorem Fr.ofBelow {w w' : World} (h : Below w.heap.size w w') (S : Foot) : Fr S w w' :=
  ⟨h.os, h.tape, h.output, h.size, fun b hb _ => h.block b hb, fun b o hb _ => h.cell (p := ⟨b, o, none⟩) hb, fun b o hb _ => h.frozen (p := ⟨b, o, none⟩) hb⟩
theorem Fr.below {S : Foot} {w w' : World} (h : Fr S w w') {B : Nat} (hB : B ≤ w.heap.size) (hs : ∀ b o, S b o → B ≤ b) : Below B w w' :=
  ⟨h.os, h.tape, h.output, h.size, fun k hk => h.block k (Nat.lt_of_lt_of_le hk hB) (fun o h' => by have := hs k o h'; omega)⟩
theorem Fr.drew {S : Foot} {w w' : World} (h : Fr S w w') : Fr S w w'.drew := ⟨h.os, h.tape, h.output, h.size, h.block, h.cell, h.froz⟩
theorem Fr.alloc {S : Foot} {w w' : World} (h : Fr S w w') (o : Obj) : Fr S w (w'.alloc o) :=
  h.trans (Fr.ofBelow (S := noCells) ((Below.refl _ _).alloc (Nat.le_refl _) _)) (fun _ _ h => h.elim)
theorem Fr.setCell {S : Foot} {w w' : World} (h : Fr S w w') {b o : Nat} (hs : S b o ∨ w.heap.size ≤ b) (u : Value) : Fr S w (w'.setCell ⟨b, o, none⟩ u) := by
  have h1 : Fr (fun k i => k = b ∧ i = o) w' (w'.setCell ⟨b, o, none⟩ u) := by
    refine ⟨rfl, rfl, rfl, by simp, fun k hk hn => ?_, fun k i hk hn => ?_, fun k i hk hn => by simp⟩
    · exact Below.heap_setCell _ _ _ _ (fun e => hn o ⟨e, rfl⟩)
    · exact World.cell?_setCell_other _ _ _ _ (fun e => hn (by cases e; exact ⟨rfl, rfl⟩))
  exact h.trans h1 (fun k i ⟨e1, e2⟩ => by subst e1; subst e2; exact hs)
/-- A row of cells. -/
def rng (b o n : Nat) : Foot := fun k i => k = b ∧ o ≤ i ∧ i < o + n
theorem Fr.setCells (w : World) (b o : Nat) (vs : List Value) : Fr (rng b o vs.length) w (w.setCells b o vs) := by
  refine ⟨World.os_setCells w b o vs, ?_, World.output_setCells w b o vs, ?_, fun k hk hn => ?_, fun k i hk hn => ?_, fun k i hk hn => World.frozen?_setCells b vs o w _⟩
  · induction vs generalizing w o with
    | nil => rfl
    | cons v vs ih => exact (ih (w.setCell ⟨b, o, none⟩ v) (o + 1)).trans rfl
  · have : ∀ (vs : List Value) (o : Nat) (w : World), w.heap.size ≤ (w.setCells b o vs).heap.size := by
      intro vs
      induction vs with
      | nil => intro o w; exact Nat.le_refl _
      | cons v vs ih =>
        intro o w
        have := ih (o + 1) (w.setCell ⟨b, o, none⟩ v)
        simpa [World.setCells] using this
    exact this vs o w
  · by_cases hv : vs = []
    · subst hv; rfl
    · refine World.heap_setCells_other w b o vs hk (fun e => ?_)
      have : 0 < vs.length := List.length_pos_iff.2 hv
      exact hn o ⟨e, Nat.le_refl _, by omega⟩
  · refine World.cell?_setCells_out b vs o w ⟨k, i, none⟩ (fun e _ => ?_)
    have e' : k = b := e
    have : ¬ (o ≤ i ∧ i < o + vs.length) := fun h => hn ⟨e', h⟩
    show i < o ∨ o + vs.length ≤ i
    omega
theorem Fr.grown {w w' : World} {row : Option Nat} (hg : w.grownBy w' row) : Fr (fun k _ => row = some k) w w' :=
  ⟨hg.os, hg.tape, hg.output, hg.size, fun k hk hn => hg.block k hk (fun e => hn 0 e.symm), fun k _o hk hn => World.cell?_of_block (hg.block k hk (fun e => hn e.symm)), fun k _o hk hn => World.frozen?_of_block (hg.block k hk (fun e => hn e.symm))⟩
theorem Fr.lt {S : Foot} {w w' : World} (h : Fr S w w') {k : Nat} (hk : k < w.heap.size) : k < w'.heap.size := Nat.lt_of_lt_of_le hk h.size

/-- Two footprints that share no cell. -/
def Apart (F G : Foot) : Prop := ∀ b o, F b o → ¬ G b o
theorem Apart.symm {F G : Foot} (h : Apart F G) : Apart G F := fun b o hg hf => h b o hf hg
/-- A footprint that has grown: into new blocks alone. -/
def Grew (w : World) (F F' : Foot) : Prop := ∀ b o, F' b o → F b o ∨ w.heap.size ≤ b
theorem Grew.refl (w : World) (F : Foot) : Grew w F F := fun _ _ h => .inl h
theorem Grew.trans {w w1 : World} {F F1 F2 : Foot} (h : Grew w F F1) (k : Grew w1 F1 F2) (hs : w.heap.size ≤ w1.heap.size) : Grew w F F2 := fun b o h2 => by
  rcases k b o h2 with h1 | h1
  · exact h b o h1
  · exact .inr (by omega)
/-- What lies below the heap's end. -/
def Lies (w : World) (F : Foot) : Prop := ∀ b o, F b o → b < w.heap.size
theorem Lies.later {S : Foot} {w w' : World} {F : Foot} (h : Lies w F) (hf : Fr S w w') : Lies w' F := fun b o hb => hf.lt (h b o hb)
theorem Apart.grew {w : World} {F G G' : Foot} (h : Apart F G) (hl : Lies w F) (hg : Grew w G G') : Apart F G' := fun b o hf hg' => by
  rcases hg b o hg' with h1 | h1
  · exact h b o hf h1
  · have := hl b o hf; omega
theorem cell_fr {S : Foot} {w w' : World} (h : Fr S w w') {b o : Nat} {u : Value} (hc : w.cell? ⟨b, o, none⟩ = some u) (hs : ¬ S b o) : w'.cell? ⟨b, o, none⟩ = some u :=
  (h.cell b o (block_of_cell hc) hs).trans hc

/-- A slice that is owned: its elements, its spare room, and nothing frozen. -/
structure Sl (w : World) (size : Nat) (F : Foot) (a : Option Addr) (n c : Nat) (xs : List Value) : Prop where
  len : xs.length = n * size
  le : n ≤ c
  cap : c ≤ maxLen
  nil : a = none → c = 0
  one : ∀ u ∈ xs, u.oneCell' = true
  at_ : ∀ x, a = some x → 0 < c * size → ∃ b o, x = ⟨b, o, none⟩ ∧ (∀ i, i < c * size → F b (o + i)) ∧ (∀ i u, xs[i]? = some u → w.cell? ⟨b, o + i, none⟩ = some u) ∧
    ∀ i, i < c * size → (w.cell? ⟨b, o + i, none⟩).isSome = true ∧ w.frozen? ⟨b, o + i, none⟩ = false
theorem Sl.fr {S F : Foot} {w w' : World} {size : Nat} {a : Option Addr} {n c : Nat} {xs : List Value} (h : Sl w size F a n c xs) (hf : Fr S w w') (hd : Apart F S) : Sl w' size F a n c xs := by
  refine ⟨h.len, h.le, h.cap, h.nil, h.one, fun x hx h0 => ?_⟩
  obtain ⟨b, o, rfl, h1, h2, h3⟩ := h.at_ x hx h0
  have hlt : b < w.heap.size := by
    obtain ⟨u, hu⟩ := Option.isSome_iff_exists.1 (h3 0 h0).1
    exact block_of_cell hu
  refine ⟨b, o, rfl, h1, fun i u hu => ?_, fun i hi => ?_⟩
  · have hi : i < c * size := by
      have := (List.getElem?_eq_some_iff.1 hu).1
      have := h.len
      have := Nat.mul_le_mul_right size h.le
      omega
    rw [hf.cell b _ hlt (hd _ _ (h1 i hi))]
    exact h2 i u hu
  · rw [hf.cell b _ hlt (hd _ _ (h1 i hi)), hf.froz b _ hlt (hd _ _ (h1 i hi))]
    exact h3 i hi
theorem Sl.foot {F F' : Foot} {w : World} {size : Nat} {a : Option Addr} {n c : Nat} {xs : List Value} (h : Sl w size F a n c xs) (hs : ∀ b o, F b o → F' b o) : Sl w size F' a n c xs :=
  ⟨h.len, h.le, h.cap, h.nil, h.one, fun x hx h0 => by
    obtain ⟨b, o, e, h1, h2⟩ := h.at_ x hx h0
    exact ⟨b, o, e, fun i hi => hs _ _ (h1 i hi), h2⟩⟩
theorem Sl.none_ (w : World) (size : Nat) : Sl w size noCells none 0 0 [] :=
  ⟨by simp, Nat.le_refl _, Nat.zero_le _, fun _ => rfl, (fun _ h => by cases h), fun _ h => by cases h⟩
/-- As what is read. -/
theorem Sl.rd {F : Foot} {w : World} {size : Nat} {a : Option Addr} {n c : Nat} {xs : List Value} (h : Sl w size F a n c xs) : Rd w size a n c xs := by
  refine ⟨h.len, h.le, h.cap, h.nil, fun x hx i u hu => ?_, h.one⟩
  have hi : i < c * size := by
    have := (List.getElem?_eq_some_iff.1 hu).1
    have := h.len
    have := Nat.mul_le_mul_right size h.le
    omega
  obtain ⟨b, o, rfl, _, h2, _⟩ := h.at_ x hx (by omega)
  rw [Addr.add_lit]
  exact h2 i u hu
/-- Where its elements lie. -/
theorem Sl.addr {F : Foot} {w : World} {size : Nat} {a : Option Addr} {n c : Nat} {xs : List Value} (h : Sl w size F a n c xs) (hne : 0 < n * size) :
    ∃ b o, a = some ⟨b, o, none⟩ ∧ (∀ i, i < c * size → F b (o + i)) ∧ (∀ i u, xs[i]? = some u → w.cell? ⟨b, o + i, none⟩ = some u) ∧
    ∀ i, i < c * size → (w.cell? ⟨b, o + i, none⟩).isSome = true ∧ w.frozen? ⟨b, o + i, none⟩ = false := by
  have hc : 0 < c * size := by have := Nat.mul_le_mul_right size h.le; omega
  cases ha : a with
  | none => have := h.nil ha; subst this; simp at hc
  | some x =>
    obtain ⟨b, o, rfl, r⟩ := h.at_ x ha hc
    exact ⟨b, o, rfl, r⟩
/-- A row of the kit's, as a slice that is owned: its block. -/
theorem Sl.ofOwn {w : World} {B : Nat} {e : TypeId} {size : Nat} {v : Value} {n : Nat} {xs : List Value} (h : w.ownsRow B e size v n xs) (h1 : ∀ u ∈ xs, u.oneCell' = true) :
    ∃ a c, v = .slice a n c ∧ Sl w size (fun k _ => B ≤ k ∧ k < w.heap.size) a n c xs := by
  obtain ⟨hl, hv⟩ := h
  rcases hv with ⟨rfl, rfl⟩ | ⟨g, cap, cur, rfl, hg, hh, hn, hc, hs, ht⟩
  · have : xs = [] := List.eq_nil_of_length_eq_zero (by simpa using hl)
    subst this
    exact ⟨none, 0, rfl, (Sl.none_ w size).foot (fun _ _ h => h.elim)⟩
  · have hlt : g < w.heap.size := by
      have := (Array.getElem?_eq_some_iff.1 hh).1
      exact this
    have hcells := World.ownsRow.cells (w := w) (base := B) (e := e) (size := size) (v := .slice (some ⟨g, 0, none⟩) n cap) ⟨hl, .inr ⟨g, cap, cur, rfl, hg, hh, hn, hc, hs, ht⟩⟩ (g := g) rfl
    refine ⟨_, _, rfl, hl, hn, hc, (fun h => by cases h), h1, fun x hx h0 => ?_⟩
    cases hx
    refine ⟨g, 0, rfl, fun i hi => ⟨hg, hlt⟩, fun i u hu => ?_, fun i hi => ?_⟩
    · rw [Nat.zero_add]
      have := hcells i u hu
      rwa [Addr.add_lit, Nat.zero_add] at this
    · rw [Nat.zero_add]
      have hc' : w.cell? ⟨g, i, none⟩ = cur[i]? := cell_of_row _ g i _ e (0, 0) hh
      rw [hc', World.ownsRow.frozenAt (w := w) (base := B) (e := e) (size := size) (n := n) (xs := xs) (cap := cap) ⟨hl, .inr ⟨g, cap, cur, rfl, hg, hh, hn, hc, hs, ht⟩⟩ i]
      exact ⟨by rw [Array.getElem?_eq_getElem (by omega)]; rfl, rfl⟩

/-- APPEND to a slice that is owned, of whatever slice that is read: in its room, or in a new block. -/
theorem run_app_sl {P : Program} {w : World} (t ty e : TypeId) (i : TypeInfo) (z : Value) (size bytes : Nat) (ht : P.underlying t = some (.slice e)) (hi : P.info? e = some i) (hz : i.zero = some z)
    (hsize : i.size = size) (hby : i.bytes = bytes) (hzs : z.cells.size = size) (hsz : 0 < size)
    {F : Foot} (a : Option Addr) (n c : Nat) (xs : List Value) (hown : Sl w size F a n c xs) (hlie : Lies w F)
    (a2 : Option Addr) (m c2 : Nat) (news : List Value) (hs : Rd w size a2 m c2 news)
    (h63 : n + m ≤ maxLen) (hbytes : (n + m) * bytes ≤ 140737488355328) :
    ∃ a' c' w' F', (Builtin.append_ #[t, t] ty #[.slice a n c, .slice a2 m c2]).run P w = .ok (.slice a' (n + m) c') w' ∧ Sl w' size F' a' (n + m) c' (xs ++ news) ∧ Fr F w w' ∧ Grew w F F' ∧ Lies w' F' := by
  have hone : ∀ u ∈ xs ++ news, u.oneCell' = true := fun u hu => by
    rcases List.mem_append.1 hu with h | h
    · exact hown.one u h
    · exact hs.one u h
  have fresh : ∀ v' w', w'.ownsRow w.heap.size e size v' (n + m) (xs ++ news) → w.grownBy w' none → ∃ a' c' F', v' = .slice a' (n + m) c' ∧ Sl w' size F' a' (n + m) c' (xs ++ news) ∧ Fr F w w' ∧ Grew w F F' ∧ Lies w' F' := by
    intro v' w' ho hg
    obtain ⟨a', c', rfl, hsl⟩ := Sl.ofOwn ho hone
    exact ⟨a', c', _, rfl, hsl, (Fr.grown hg).mono (fun _ _ h => by cases h), fun b o h => .inr h.1, fun b o h => h.2⟩
  cases a2 with
  | none =>
    have hc2 := hs.nil rfl
    have hm : m = 0 := by have := hs.le; omega
    subst hc2; subst hm
    have hn : news = [] := List.eq_nil_of_length_eq_zero (by simpa using hs.len)
    subst hn
    have hle := hown.le
    refine ⟨a, c, w, F, ?_, by simpa using hown, Fr.refl _ _, Grew.refl _ _, hlie⟩
    cases a with
    | none =>
      have := hown.nil rfl
      subst this
      have : n = 0 := by omega
      subst this
      simp [Builtin.append_, run_underlying ht, sizeOf, typeInfo, hi, Builtin.lenOf, Builtin.firstCells]
    | some x => simp [Builtin.append_, run_underlying ht, sizeOf, typeInfo, hi, Builtin.lenOf, Builtin.firstCells, hle, storeCells]
  | some ad =>
    cases a with
    | none =>
      have hc0 := hown.nil rfl
      have hn0 : n = 0 := by have := hown.le; omega
      subst hc0; subst hn0
      have hx : xs = [] := List.eq_nil_of_length_eq_zero (by simpa using hown.len)
      subst hx
      obtain ⟨v', w', hr, h2, h3, _⟩ := run_append_own (P := P) w w.heap.size t ty e i z size bytes ht hi hz hsize hby hzs hsz (.slice none 0 0) 0 [] (World.ownsRow_nil _ _ _ _) ad m c2 news hs.len (hs.cell ad rfl) hs.one h63 hbytes (Nat.le_refl _)
      obtain ⟨a', c', F', rfl, r⟩ := fresh v' w' h2 h3
      exact ⟨a', c', w', F', hr, r⟩
    | some x =>
      by_cases hroom : n + m ≤ c
      · by_cases hc0 : c = 0
        · subst hc0
          have : m = 0 := by omega
          subst this
          have : n = 0 := by omega
          subst this
          have hn : news = [] := List.eq_nil_of_length_eq_zero (by simpa using hs.len)
          subst hn
          refine ⟨some x, 0, w, F, ?_, by simpa using hown, Fr.refl _ _, Grew.refl _ _, hlie⟩
          simp [Builtin.append_, run_underlying ht, sizeOf, typeInfo, hi, Builtin.lenOf, Builtin.firstCells, storeCells, loadCells, loadCellsFrom]
        · have hcs : 0 < c * size := Nat.mul_pos (by omega) hsz
          obtain ⟨b, o, rfl, h1, h2, h3⟩ := hown.at_ x rfl hcs
          have hnl : news.length = m * size := hs.len
          have hbd : n * size + news.length ≤ c * size := by
            rw [hnl, ← Nat.add_mul]
            exact Nat.mul_le_mul_right _ hroom
          have hr := run_append_room_cells (P := P) w t ty e i ht hi b o n c ad m c2 news (by rw [hsize]; exact hnl) (fun j u hj => hs.cell ad rfl j u hj) hs.one hroom (fun j hj => by
            rw [hsize, Nat.add_assoc]; exact (h3 (n * size + j) (by omega)).1) (fun j hj => by
            rw [hsize, Nat.add_assoc]; exact (h3 (n * size + j) (by omega)).2)
          rw [hsize] at hr
          have hfr := Fr.setCells w b (o + n * size) news
          have hin : ∀ k j, rng b (o + n * size) news.length k j → F k j := by
            intro k j ⟨e, hj1, hj2⟩
            subst e
            have := h1 (j - o) (by omega)
            rwa [show o + (j - o) = j by omega] at this
          refine ⟨some ⟨b, o, none⟩, c, _, F, hr, ⟨by rw [List.length_append, hown.len, hnl, Nat.add_mul], hroom, hown.cap, (fun h => by cases h), hone, fun y hy h0 => ?_⟩, hfr.mono hin, Grew.refl _ _, hlie.later hfr⟩
          cases hy
          refine ⟨b, o, rfl, h1, fun j u hu => ?_, fun j hj => ?_⟩
          · by_cases hjn : j < n * size
            · rw [List.getElem?_append_left (by rw [hown.len]; exact hjn)] at hu
              rw [World.cell?_setCells_out b news (o + n * size) w ⟨b, o + j, none⟩ (fun _ _ => .inl (by show o + j < o + n * size; omega))]
              exact h2 j u hu
            · rw [List.getElem?_append_right (by rw [hown.len]; omega), hown.len] at hu
              obtain ⟨hj2, hu2⟩ := List.getElem?_eq_some_iff.1 hu
              have := World.cell?_setCells_in b news (o + n * size) w (fun j hj => by rw [Nat.add_assoc]; exact (h3 (n * size + j) (by omega)).1) (j - n * size) hj2
              rw [show o + n * size + (j - n * size) = o + j by omega] at this
              rw [this, ← hu2]
          · exact ⟨World.isSome_setCells b news _ w _ (h3 j hj).1, by rw [World.frozen?_setCells]; exact (h3 j hj).2⟩
      · obtain ⟨v', w', hr, h2, h3⟩ := run_append_arg_grows (P := P) w t ty e i z size bytes ht hi hz hsize hby hzs hsz x n c xs hown.len (fun j u hj => hown.rd.cell x rfl j u hj) ad m c2 news hs.len (fun j u hj => hs.cell ad rfl j u hj) (by omega) h63 hbytes
        obtain ⟨a', c', F', rfl, r⟩ := fresh v' w' h2 h3
        exact ⟨a', c', w', F', hr, r⟩

/-- .. in the walk's form. -/
theorem wpList_app_sl {P : Program} {w : World} {ops : Array Oper} {rest : List Oper} {o : Oper} {a : Act} {Q : Exit → Act → World → Prop} (hgd : o.guard = none) (s x : Operand) (t : TypeId)
    (ho : o.op = .call { callee := .builtin .append, args := #[s, x], argTypes := #[t, t] })
    (e : TypeId) (i : TypeInfo) (z : Value) (size bytes : Nat) (ht : P.underlying t = some (.slice e)) (hi : P.info? e = some i) (hz : i.zero = some z)
    (hsize : i.size = size) (hby : i.bytes = bytes) (hzs : z.cells.size = size) (hsz : 0 < size)
    (F : Foot) (a1 : Option Addr) (n c : Nat) (xs : List Value) (hs : a.eval s = .slice a1 n c) (hown : Sl w size F a1 n c xs) (hlie : Lies w F)
    (a2 : Option Addr) (m c2 : Nat) (news : List Value) (hx : a.eval x = .slice a2 m c2) (hr : Rd w size a2 m c2 news)
    (N : Nat) (ys : List Value) (hN : n + m = N) (hys : xs ++ news = ys) (h63 : N ≤ maxLen) (hbytes : N * bytes ≤ 140737488355328)
    (h : ∀ a' c' w' F', Sl w' size F' a' N c' ys → Fr F w w' → Grew w F F' → Lies w' F' → wpList P ops Q rest (a.put o.dst (.slice a' N c')) w') : wpList P ops Q (o :: rest) a w := by
  subst hN
  subst hys
  refine wpList_plain hgd fun K hK => ?_
  obtain ⟨a', c', w', F', hrun, h2, h3, h4, h5⟩ := run_app_sl (P := P) t o.type e i z size bytes ht hi hz hsize hby hzs hsz a1 n c xs hown hlie a2 m c2 news hr h63 hbytes
  unfold Oper.wp
  simp [execOp, ho, resolve, invoke, builtin, hs, hx, hrun, Result.andThen]
  exact hK _ _ (h _ _ _ _ h2 h3 h4 h5)
/-- .. at a step of a region that draws its order. -/
theorem step_app_sl {P : Program} {w : World} {ops : Array Oper} {o : Oper} {a : Act} {K : Act → World → Prop} {Q : Exit → Act → World → Prop} {E : Prop} (hgd : o.guard = none) (s x : Operand) (t : TypeId)
    (ho : o.op = .call { callee := .builtin .append, args := #[s, x], argTypes := #[t, t] })
    (e : TypeId) (i : TypeInfo) (z : Value) (size bytes : Nat) (ht : P.underlying t = some (.slice e)) (hi : P.info? e = some i) (hz : i.zero = some z)
    (hsize : i.size = size) (hby : i.bytes = bytes) (hzs : z.cells.size = size) (hsz : 0 < size)
    (F : Foot) (a1 : Option Addr) (n c : Nat) (xs : List Value) (hs : a.eval s = .slice a1 n c) (hown : Sl w size F a1 n c xs) (hlie : Lies w F)
    (a2 : Option Addr) (m c2 : Nat) (news : List Value) (hx : a.eval x = .slice a2 m c2) (hr : Rd w size a2 m c2 news)
    (N : Nat) (ys : List Value) (hN : n + m = N) (hys : xs ++ news = ys) (h63 : N ≤ maxLen) (hbytes : N * bytes ≤ 140737488355328)
    (h : ∀ a' c' w' F', Sl w' size F' a' N c' ys → Fr F w w' → Grew w F F' → Lies w' F' → K (a.put o.dst (.slice a' N c')) w') :
    if Region.wanted o (yielded ops a.tmps) = true then Oper.wp P o a w K Q else E := by
  subst hN
  subst hys
  have hw : Region.wanted o (yielded ops a.tmps) = true := by simp [Region.wanted, hgd]
  rw [if_pos hw]
  obtain ⟨a', c', w', F', hrun, h2, h3, h4, h5⟩ := run_app_sl (P := P) t o.type e i z size bytes ht hi hz hsize hby hzs hsz a1 n c xs hown hlie a2 m c2 news hr h63 hbytes
  unfold Oper.wp
  simp [execOp, ho, resolve, invoke, builtin, hs, hx, hrun, Result.andThen]
  exact h _ _ _ _ h2 h3 h4 h5

theorem Sl.laid {w : World} {size : Nat} {F : Foot} {a : Option Addr} {n c : Nat} {xs : List Value} (h : Sl w size F a n c xs) (o : Obj) : Sl (w.alloc o) size F a n c xs := h.fr ((Fr.refl noCells w).alloc o) (fun _ _ _ h => h)
theorem Lies.laid {w : World} {F : Foot} (h : Lies w F) (o : Obj) : Lies (w.alloc o) F := h.later ((Fr.refl noCells w).alloc o)
theorem byte_snoc (bs : List UInt8) (k : Nat) (z : Int) (h : z = k) (hk : k < 256) : bytesV bs ++ [.int .u8 z] = bytesV (bs ++ [UInt8.ofNat k]) := by
  rw [bytesV_append]
  have : (UInt8.ofNat k).toNat = k := by rw [UInt8.toNat_ofNat']; omega
  simp [bytesV, this, h]
/-- A slice that was made since w0, in a world that has kept what there was. -/
def Loc (size : Nat) (w0 w : World) (a : Option Addr) (n c : Nat) (xs : List Value) : Prop := ∃ F, Sl w size F a n c xs ∧ Lies w F ∧ (∀ b o, F b o → w0.heap.size ≤ b) ∧ Below w0.heap.size w0 w
section
variable {size n c : Nat} {w0 w w' : World} {a : Option Addr} {xs : List Value}
theorem Loc.rd (h : Loc size w0 w a n c xs) : Rd w size a n c xs := by
  obtain ⟨F, h1, _⟩ := h
  exact h1.rd
theorem Loc.low (h : Loc size w0 w a n c xs) : Below w0.heap.size w0 w := by
  obtain ⟨F, _, _, _, h1⟩ := h
  exact h1
theorem Loc.start (size : Nat) (w0 w : World) (hb : Below w0.heap.size w0 w) : Loc size w0 w none 0 0 [] := ⟨noCells, Sl.none_ w size, fun _ _ h => h.elim, fun _ _ h => h.elim, hb⟩
theorem Loc.later (h : Loc size w0 w a n c xs) (hb : Below w.heap.size w w') : Loc size w0 w' a n c xs := by
  obtain ⟨F, h1, h2, h3, h4⟩ := h
  exact ⟨F, h1.fr (Fr.ofBelow hb noCells) (fun _ _ _ h => h), h2.later (Fr.ofBelow hb noCells), h3, h4.trans (hb.mono h4.size)⟩
theorem Loc.app {w2 : World} {F F2 : Foot} {a2 : Option Addr} {N c2 : Nat} {ys : List Value} (h3 : ∀ b o, F b o → w0.heap.size ≤ b) (h4 : Below w0.heap.size w0 w)
    (hs : Sl w2 size F2 a2 N c2 ys) (hfr : Fr F w w2) (hgr : Grew w F F2) (hl : Lies w2 F2) : Loc size w0 w2 a2 N c2 ys := by
  refine ⟨F2, hs, hl, fun b i hb => ?_, h4.trans (hfr.below h4.size h3)⟩
  rcases hgr b i hb with h | h
  · exact h3 b i h
  · have := h4.size; omega
/-- .. and since an earlier world. -/
theorem Loc.since {w1 : World} (h : Loc size w1 w a n c xs) (hb : Below w0.heap.size w0 w1) : Loc size w0 w a n c xs := by
  obtain ⟨F, h1, h2, h3, h4⟩ := h
  exact ⟨F, h1, h2, fun b o hf => Nat.le_trans hb.size (h3 b o hf), hb.trans (h4.mono hb.size)⟩
end
theorem wpList_app_loc {P : Program} {w : World} {ops : Array Oper} {rest : List Oper} {o : Oper} {a : Act} {Q : Exit → Act → World → Prop} (hgd : o.guard = none) (s x : Operand) (t : TypeId)
    (ho : o.op = .call { callee := .builtin .append, args := #[s, x], argTypes := #[t, t] })
    (e : TypeId) (i : TypeInfo) (z : Value) (size bytes : Nat) (ht : P.underlying t = some (.slice e)) (hi : P.info? e = some i) (hz : i.zero = some z)
    (hsize : i.size = size) (hby : i.bytes = bytes) (hzs : z.cells.size = size) (hsz : 0 < size)
    (w0 : World) (a1 : Option Addr) (n c : Nat) (xs : List Value) (hs : a.eval s = .slice a1 n c) (hown : Loc size w0 w a1 n c xs)
    (a2 : Option Addr) (m c2 : Nat) (news : List Value) (hx : a.eval x = .slice a2 m c2) (hr : Rd w size a2 m c2 news)
    (N : Nat) (ys : List Value) (hN : n + m = N) (hys : xs ++ news = ys) (h63 : N ≤ maxLen) (hbytes : N * bytes ≤ 140737488355328)
    (h : ∀ a' c' w', Loc size w0 w' a' N c' ys → wpList P ops Q rest (a.put o.dst (.slice a' N c')) w') : wpList P ops Q (o :: rest) a w := by
  obtain ⟨F, h1, h2, h3, h4⟩ := hown
  exact wpList_app_sl hgd s x t ho e i z size bytes ht hi hz hsize hby hzs hsz F a1 n c xs hs h1 h2 a2 m c2 news hx hr N ys hN hys h63 hbytes fun a' c' w' F' k1 k2 k3 k4 => h a' c' w' (Loc.app h3 h4 k1 k2 k3 k4)
theorem sl_len {w : World} {F : Foot} {a : Option Addr} {n c : Nat} {bs : List UInt8} (h : Sl w 1 F a n c (bytesV bs)) : n = bs.length := by
  have := h.len
  rw [bytesV_length] at this
  omega
/-- One byte more, of a slice of the statement's own. -/
theorem wpList_app_byte {P : Program} {w : World} {ops : Array Oper} {rest : List Oper} {o : Oper} {a : Act} {Q : Exit → Act → World → Prop} (hgd : o.guard = none) (s x : Operand) (t : TypeId)
    (ho : o.op = .call { callee := .builtin .append, args := #[s, x], argTypes := #[t, t] })
    (e : TypeId) (i : TypeInfo) (ht : P.underlying t = some (.slice e)) (hi : P.info? e = some i) (hz : i.zero = some (.int .u8 0)) (hsize : i.size = 1) (hby : i.bytes = 1)
    (F : Foot) (a1 : Option Addr) (c : Nat) (bs : List UInt8) (hs : a.eval s = .slice a1 bs.length c) (hown : Sl w 1 F a1 bs.length c (bytesV bs)) (hlie : Lies w F)
    (z : Int) (k : Nat) (hzk : z = k) (hk : k < 256) (hx : a.eval x = .slice (some ⟨w.heap.size, 0, none⟩) 1 1) (hb : bs.length < 1000000000)
    (h : ∀ a' c' w' F', Sl w' 1 F' a' (bs.length + 1) c' (bytesV (bs ++ [UInt8.ofNat k])) → Fr F (w.alloc (.cells #[.int .u8 z] e)) w' → Grew (w.alloc (.cells #[.int .u8 z] e)) F F' → Lies w' F' → wpList P ops Q rest (a.put o.dst (.slice a' (bs.length + 1) c')) w') : wpList P ops Q (o :: rest) a (w.alloc (.cells #[.int .u8 z] e)) :=
  wpList_app_sl hgd s x t ho e i (.int .u8 0) 1 1 ht hi hz hsize hby rfl (by decide) F a1 bs.length c (bytesV bs) hs (hown.laid _) (hlie.laid _) (some ⟨w.heap.size, 0, none⟩) 1 1 [.int .u8 z] hx (Rd.oneNew w (.int .u8 z) e rfl)
    (bs.length + 1) (bytesV (bs ++ [UInt8.ofNat k])) rfl (byte_snoc bs k z hzk hk) (by unfold maxLen; omega) (by omega) h
/-- Bytes more. -/
theorem wpList_app_bytes {P : Program} {w : World} {ops : Array Oper} {rest : List Oper} {o : Oper} {a : Act} {Q : Exit → Act → World → Prop} (hgd : o.guard = none) (s x : Operand) (t : TypeId)
    (ho : o.op = .call { callee := .builtin .append, args := #[s, x], argTypes := #[t, t] })
    (e : TypeId) (i : TypeInfo) (ht : P.underlying t = some (.slice e)) (hi : P.info? e = some i) (hz : i.zero = some (.int .u8 0)) (hsize : i.size = 1) (hby : i.bytes = 1)
    (F : Foot) (a1 : Option Addr) (c : Nat) (bs : List UInt8) (hs : a.eval s = .slice a1 bs.length c) (hown : Sl w 1 F a1 bs.length c (bytesV bs)) (hlie : Lies w F)
    (a2 : Option Addr) (c2 : Nat) (cs : List UInt8) (hx : a.eval x = .slice a2 cs.length c2) (hr : RdB w a2 c2 cs) (hb : bs.length + cs.length < 1000000000)
    (h : ∀ a' c' w' F', Sl w' 1 F' a' (bs.length + cs.length) c' (bytesV (bs ++ cs)) → Fr F w w' → Grew w F F' → Lies w' F' → wpList P ops Q rest (a.put o.dst (.slice a' (bs.length + cs.length) c')) w') : wpList P ops Q (o :: rest) a w :=
  wpList_app_sl hgd s x t ho e i (.int .u8 0) 1 1 ht hi hz hsize hby rfl (by decide) F a1 bs.length c (bytesV bs) hs hown hlie a2 cs.length c2 (bytesV cs) hx hr
    (bs.length + cs.length) (bytesV (bs ++ cs)) rfl (bytesV_append bs cs).symm (by unfold maxLen; omega) (by omega) h
end Go.Proofs.YtgoegdlhbadlfaaDoor
