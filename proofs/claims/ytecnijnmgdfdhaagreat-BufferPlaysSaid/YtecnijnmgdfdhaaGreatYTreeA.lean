/- Joined: TrM, Tree1, Tree2, Tree3, Tree4, Reg. -/
import Derived.Test.YtecnijnmgdfdhaaGreatYKit
import Derived.Lib.AppendZerosOnto
import Derived.Lib.Overlaps
import Derived.Laws.NewBlocks
import Derived.Laws.Externs
import Derived.Test.YtecnijnmgdfdhaaGreatProg
import Derived.Deep.QuietTactic
import Derived.BigQuiet
import Derived.Deep.RegionLaw
import Derived.Test.YtecnijnmgdfdhaaGreatYTr
import Derived.Handy
import Derived.Lib.Strings
import Derived.WalkLawsBesides
import Derived.OrdersHeld
import Derived.Deep.RegionHeld
namespace Go.Proofs.YtecnijnmgdfdhaaGreat
open Go.RowKit

theorem Sl.redo {w W : World} {size : Nat} {F : Foot} {b o n c : Nat} {xs : List Value} (h : Sl w size F (some ⟨b, o, none⟩) n c xs) (n' : Nat) (hn : n' ≤ c) (zs : List Value) (hz : zs.length = n' * size) (h1 : ∀ u ∈ zs, u.oneCell' = true)
  (hc : 0 < c * size → (∀ i u, zs[i]? = some u → W.cell? ⟨b, o + i, none⟩ = some u) ∧ ∀ i, i < c * size → (W.cell? ⟨b, o + i, none⟩).isSome = true ∧ W.frozen? ⟨b, o + i, none⟩ = false) :
  Sl W size F (some ⟨b, o, none⟩) n' c zs := by
 refine ⟨hz, hn, h.cap, h.nil, h1, fun x hx h0 => ?_⟩
 obtain ⟨b', o', e, g1, _⟩ := h.at_ x hx h0
 subst e
 cases hx
 exact ⟨b, o, rfl, g1, hc h0⟩
theorem Sl.prefix_ {w : World} {size : Nat} {F : Foot} {a : Option Addr} {n c : Nat} {xs : List Value} (h : Sl w size F a n c xs) (i : Nat) (hi : i ≤ n) : Sl w size F a i c (xs.take (i * size)) := by
 have := Nat.mul_le_mul_right size hi
 refine ⟨by rw [List.length_take, h.len]; omega, Nat.le_trans hi h.le, h.cap, h.nil, fun u hu => h.one u (List.mem_of_mem_take hu), fun x hx h0 => ?_⟩
 obtain ⟨b, o, e, g1, g2, g3⟩ := h.at_ x hx h0
 refine ⟨b, o, e, g1, fun j u hu => g2 j u ?_, g3⟩
 rw [List.getElem?_take] at hu
 split at hu
 ·exact hu
 ·cases hu
theorem fr_cells {w : World} {size : Nat} {F : Foot} {b o n c : Nat} {xs : List Value} (h : Sl w size F (some ⟨b, o, none⟩) n c xs) (p : Nat) (ys : List Value) (hp : p + ys.length ≤ c * size) : Fr F w (w.setCells b (o + p) ys) := by
 refine (Fr.setCells w b (o + p) ys).mono fun k j hr => ?_
 obtain ⟨e, h2, h3⟩ := hr
 subst e
 obtain ⟨b', o', e, g1, _⟩ := h.at_ _ rfl (by omega)
 cases e
 have := g1 (j - o) (by omega)
 rwa [show o + (j - o) = j by omega] at this
theorem some_cells {w : World} {b o m : Nat} (h : ∀ i, i < m → (w.cell? ⟨b, o + i, none⟩).isSome = true ∧ w.frozen? ⟨b, o + i, none⟩ = false) (p : Nat) (ys : List Value) :
  ∀ i, i < m → ((w.setCells b (o + p) ys).cell? ⟨b, o + i, none⟩).isSome = true ∧ (w.setCells b (o + p) ys).frozen? ⟨b, o + i, none⟩ = false := fun i hi =>
 ⟨World.isSome_setCells b ys _ w _ (h i hi).1, by rw [World.frozen?_setCells]; exact (h i hi).2⟩
theorem in_cells {w : World} {b o m : Nat} (h : ∀ i, i < m → (w.cell? ⟨b, o + i, none⟩).isSome = true ∧ w.frozen? ⟨b, o + i, none⟩ = false) (p : Nat) (ys : List Value) (hp : p + ys.length ≤ m) {i : Nat} {u : Value} (hi : p ≤ i) (hu : ys[i - p]? = some u) :
  (w.setCells b (o + p) ys).cell? ⟨b, o + i, none⟩ = some u := by
 obtain ⟨hj, hv⟩ := List.getElem?_eq_some_iff.1 hu
 have := World.cell?_setCells_in b ys (o + p) w (fun j hj => by rw [Nat.add_assoc]; exact (h (p + j) (by omega)).1) (i - p) hj
 rw [show o + p + (i - p) = o + i by omega] at this
 rw [this, hv]
theorem out_cells {w : World} {b o : Nat} (p : Nat) (ys : List Value) {i : Nat} (hi : i < p ∨ p + ys.length ≤ i) : (w.setCells b (o + p) ys).cell? ⟨b, o + i, none⟩ = w.cell? ⟨b, o + i, none⟩ :=
 World.cell?_setCells_out b ys (o + p) w _ (fun _ _ => by show o + i < o + p ∨ o + p + ys.length ≤ o + i; omega)

theorem run_copy_any {P : Program} (w : World) (dT sT ty elem : TypeId) (size : Nat) (b o dLen dCap : Nat) (a : Addr) (sLen sCap : Nat) (cs : List Value)
  (hu : P.underlying dT = some (.slice elem)) (hs : (P.info? elem).map (·.size) = some size) (hn : cs.length = Nat.min sLen dLen * size)
  (hsrc : ∀ j v, cs[j]? = some v → w.cell? (a.add j) = some v) (hc : ∀ j, j < cs.length → (w.cell? ⟨b, o + j, none⟩).isSome = true ∧ w.frozen? ⟨b, o + j, none⟩ = false) (h1 : ∀ v ∈ cs, v.oneCell' = true) :
  (Builtin.copy_ #[dT, sT] ty #[.slice (some ⟨b, o, none⟩) dLen dCap, .slice (some a) sLen sCap]).run P w = .ok (goInt (Nat.min sLen dLen)) (w.setCells b o cs) := by
 have hl := run_loadCells_list (P := P) w a cs hsrc
 have hst := run_storeCells_cells (P := P) b o cs 0 w (fun j hj => by simpa using (hc j hj).1) (fun j hj => by simpa using (hc j hj).2) h1
 cases hq : P.info? elem with
 | none => simp [hq] at hs
 | some i =>
  have hi : i.size = size := by simpa [hq] using hs
  simp [Builtin.copy_, run_underlying hu, Builtin.lenOf, Builtin.firstCells, sizeOf, typeInfo, hq, hi, ← hn, hl, hst]
theorem run_app_room {P : Program} {w : World} (t ty e : TypeId) (i : TypeInfo) (size : Nat) (ht : P.underlying t = some (.slice e)) (hi : P.info? e = some i) (hsize : i.size = size) (hsz : 0 < size)
  {F : Foot} (b o n c : Nat) (xs : List Value) (hown : Sl w size F (some ⟨b, o, none⟩) n c xs) (a2 : Option Addr) (m c2 : Nat) (news : List Value) (hs : Rd w size a2 m c2 news) (hroom : n + m ≤ c) :
  ∃ w', (Builtin.append_ #[t, t] ty #[.slice (some ⟨b, o, none⟩) n c, .slice a2 m c2]).run P w = .ok (.slice (some ⟨b, o, none⟩) (n + m) c) w' ∧ Sl w' size F (some ⟨b, o, none⟩) (n + m) c (xs ++ news) ∧ Fr F w w' := by
 have hone : ∀ u ∈ xs ++ news, u.oneCell' = true := fun u hu => by
  rcases List.mem_append.1 hu with h | h
  ·exact hown.one u h
  ·exact hs.one u h
 have hnl : news.length = m * size := hs.len
 by_cases hm : m = 0
 ·subst hm
  have hn : news = [] := List.eq_nil_of_length_eq_zero (by rw [hnl]; simp)
  subst hn
  refine ⟨w, ?_, by simpa using hown, Fr.refl _ _⟩
  have hle := hown.le
  cases a2 <;> simp [Builtin.append_, run_underlying ht, sizeOf, typeInfo, hi, Builtin.lenOf, Builtin.firstCells, hle, storeCells, loadCells, loadCellsFrom]
 ·have hcs : 0 < c * size := Nat.mul_pos (by omega) hsz
  obtain ⟨b', o', e', h1, h2, h3⟩ := hown.at_ _ rfl hcs
  cases e'
  have hbd : n * size + news.length ≤ c * size := by
   rw [hnl, ← Nat.add_mul]
   exact Nat.mul_le_mul_right _ hroom
  cases a2 with
  | none => have := hs.nil rfl; have := hs.le; omega
  | some ad =>
   have hr := run_append_room_cells (P := P) w t ty e i ht hi b o n c ad m c2 news (by rw [hsize]; exact hnl) (fun j u hj => hs.cell ad rfl j u hj) hs.one hroom (fun j hj => by
    rw [hsize, Nat.add_assoc]; exact (h3 (n * size + j) (by omega)).1) (fun j hj => by
    rw [hsize, Nat.add_assoc]; exact (h3 (n * size + j) (by omega)).2)
   rw [hsize] at hr
   refine ⟨_, hr, hown.redo (n + m) hroom (xs ++ news) (by rw [List.length_append, hown.len, hnl, Nat.add_mul]) hone (fun _ => ⟨fun j u hu => ?_, some_cells h3 _ _⟩), fr_cells hown _ _ hbd⟩
   by_cases hjn : j < n * size
   ·rw [List.getElem?_append_left (by rw [hown.len]; exact hjn)] at hu
    rw [out_cells _ _ (.inl hjn)]
    exact h2 j u hu
   ·rw [List.getElem?_append_right (by rw [hown.len]; omega), hown.len] at hu
    exact in_cells h3 _ _ hbd (by omega) hu
theorem run_clear_one {P : Program} {w : World} (t e ty : TypeId) (z : Value) (size : Nat) (ht : P.underlying t = some (.slice e)) (hv : ∀ w, (zeroValue e).run P w = .ok z w) (hz : z.cells.size = size) (hsz : 0 < size) (h1 : ∀ v ∈ (Builtin.zeroCells z.cells 1).toList, v.oneCell' = true)
  {F : Foot} (b o n c k : Nat) (xs : List Value) (h : Sl w size F (some ⟨b, o, none⟩) n c xs) (hn : n < c) :
  ∃ w', (Builtin.clear_ #[t] ty #[.slice (some ⟨b, o + n * size, none⟩) 1 k]).run P w = .ok (.tuple #[]) w' ∧ Sl w' size F (some ⟨b, o, none⟩) n c xs ∧ Fr F w w' := by
 have hcs : 0 < c * size := Nat.mul_pos (by omega) hsz
 obtain ⟨b', o', e', g1, g2, g3⟩ := h.at_ _ rfl hcs
 cases e'
 have hl : (Builtin.zeroCells z.cells 1).toList.length = size := by simp [Builtin.zeroCells, hz]
 have hbd : n * size + (Builtin.zeroCells z.cells 1).toList.length ≤ c * size := by
  rw [hl]
  have := Nat.mul_le_mul_right size (show n + 1 ≤ c by omega)
  rw [Nat.add_mul, Nat.one_mul] at this
  exact this
 have hst := run_storeCells_cells (P := P) b (o + n * size) (Builtin.zeroCells z.cells 1).toList 0 w (fun j hj => by rw [Nat.add_zero, Nat.add_assoc]; exact (g3 (n * size + j) (by omega)).1) (fun j hj => by rw [Nat.add_zero, Nat.add_assoc]; exact (g3 (n * size + j) (by omega)).2) h1
 rw [Nat.add_zero] at hst
 refine ⟨w.setCells b (o + n * size) (Builtin.zeroCells z.cells 1).toList, ?_, h.redo n h.le xs h.len h.one (fun _ => ⟨fun j u hu => ?_, some_cells g3 _ _⟩), fr_cells h _ _ hbd⟩
 ·simp [Builtin.clear_, run_underlying ht, hv, hst]
 ·have hj := (List.getElem?_eq_some_iff.1 hu).1
  rw [h.len] at hj
  rw [out_cells _ _ (.inl hj)]
  exact g2 j u hu
structure Arg (w : World) (vb : Nat) (vs : List Value) : Prop where
 cell : ∀ j v, vs[j]? = some v → w.cell? ⟨vb, j, none⟩ = some v
 shape : ∃ t, w.shape? vb = some (t, vs.length)
 froz : ∀ j, w.frozen? ⟨vb, j, none⟩ = false
 one : ∀ u ∈ vs, u.oneCell' = true
theorem Arg.made (w : World) (vs : List Value) (t : TypeId) (h1 : ∀ u ∈ vs, u.oneCell' = true) : Arg (w.alloc (.cells vs.toArray t)) w.heap.size vs := by
 have hh : (w.alloc (.cells vs.toArray t)).heap[w.heap.size]? = some (.cells vs.toArray t (0, 0)) := heap_alloc_new w _
 refine ⟨fun j v hv => ?_, ⟨t, ?_⟩, fun j => ?_, h1⟩
 ·rw [cell_of_row _ w.heap.size j _ t (0, 0) hh]; simpa using hv
 ·unfold World.shape?; rw [hh]; simp
 ·unfold World.frozen?; rw [hh]; simp
theorem Arg.block {w w' : World} {vb : Nat} {vs : List Value} (h : Arg w vb vs) (he : w'.heap[vb]? = w.heap[vb]?) : Arg w' vb vs := by
 obtain ⟨t, ht⟩ := h.shape
 refine ⟨fun j v hv => ?_, ⟨t, ?_⟩, fun j => ?_, h.one⟩
 ·rw [World.cell?_of_block (w := w) he]; exact h.cell j v hv
 ·unfold World.shape? at ht ⊢; rw [he]; exact ht
 ·rw [World.frozen?_of_block (w := w) he]; exact h.froz j
theorem Arg.lt {w : World} {vb : Nat} {vs : List Value} (h : Arg w vb vs) : vb < w.heap.size := by
 obtain ⟨t, ht⟩ := h.shape
 rcases Nat.lt_or_ge vb w.heap.size with hl | hl
 ·exact hl
 ·unfold World.shape? at ht; rw [Array.getElem?_eq_none hl] at ht; cases ht
theorem Arg.later {w w' : World} {vb : Nat} {vs : List Value} (h : Arg w vb vs) (hb : Below w.heap.size w w') : Arg w' vb vs := h.block (hb.block vb h.lt)
theorem Arg.fr {S : Foot} {w w' : World} {vb : Nat} {vs : List Value} (h : Arg w vb vs) (hf : Fr S w w') (hn : ∀ o, ¬ S vb o) : Arg w' vb vs := h.block (hf.block vb h.lt hn)
theorem Arg.rd {w : World} {vb : Nat} {vs : List Value} (h : Arg w vb vs) {size n : Nat} (hl : vs.length = n * size) (hn : n ≤ maxLen) : Rd w size (some ⟨vb, 0, none⟩) n n vs :=
 ⟨hl, Nat.le_refl _, hn, (fun h => by cases h), (fun x hx i u hu => by cases hx; rw [Addr.add_lit, Nat.zero_add]; exact h.cell i u hu), h.one⟩
theorem shape_some {w : World} {x : Addr} (h : (w.cell? x).isSome = true) : ∃ t k, w.shape? x.block = some (t, k) ∧ k ≠ 0 := by
 unfold World.cell? at h
 unfold World.shape?
 split at h
 ·rename_i c t f hc
  split at h
  ·cases h
  ·refine ⟨t, c.size, rfl, fun h0 => ?_⟩
   rw [Array.getElem?_eq_none (by omega)] at h
   cases h
 ·cases h
theorem run_overlaps {P : Program} (w : World) (tS tR e : TypeId) (ht : P.underlying tS = some (.slice e)) (size : Nat) (hz : ∀ w, (Go.sizeOf e).run P w = .ok size w) (hsz : 0 < size) (vb : Nat) (vs : List Value) (hA : Arg w vb vs)
  {F : Foot} (b o n c : Nat) (xs : List Value) (h : Sl w size F (some ⟨b, o, none⟩) n c xs) (hc : 0 < c) (hF : ∀ o, ¬ F vb o) (la ca lb cb p : Nat) :
  (Extern.SlicesOverlaps.overlaps #[tS, tS] #[tR] #[.slice (some ⟨vb, 0, none⟩) la ca, .slice (some ⟨b, o + p, none⟩) lb cb]).run P w = .ok (.bool false) w := by
 obtain ⟨b', o', e', g1, _, g3⟩ := h.at_ _ rfl (Nat.mul_pos hc hsz)
 cases e'
 obtain ⟨tA, hsA⟩ := hA.shape
 obtain ⟨tB, kB, hsB, hkB⟩ := shape_some (g3 0 (Nat.mul_pos hc hsz)).1
 exact Lib.run_overlaps_apart w tS tR e ht size hz ⟨vb, 0, none⟩ ⟨b, o + p, none⟩ la ca lb cb (fun e => hF (o + 0) (by have := g1 0 (Nat.mul_pos hc hsz); rwa [← show vb = b from e] at this)) tA tB vs.length kB hsA hsB hkB (hA.froz 0) (hA.froz _)
theorem Sl.shift {w : World} {size : Nat} {F : Foot} {b o n c : Nat} {xs : List Value} (h : Sl w size F (some ⟨b, o, none⟩) n c xs) (hsz : 0 < size) (i : Nat) (hi : i ≤ n) (hroom : n + 1 ≤ c) (vs : List Value) (hvs : vs.length = size) (h1 : ∀ u ∈ vs, u.oneCell' = true) :
  (∀ j, j < (xs.drop (i * size)).length → (w.cell? ⟨b, o + (i + 1) * size + j, none⟩).isSome = true ∧ w.frozen? ⟨b, o + (i + 1) * size + j, none⟩ = false) ∧
  (∀ j, j < vs.length → ((w.setCells b (o + (i + 1) * size) (xs.drop (i * size))).cell? ⟨b, o + i * size + j, none⟩).isSome = true ∧ (w.setCells b (o + (i + 1) * size) (xs.drop (i * size))).frozen? ⟨b, o + i * size + j, none⟩ = false) ∧
  Sl ((w.setCells b (o + (i + 1) * size) (xs.drop (i * size))).setCells b (o + i * size) vs) size F (some ⟨b, o, none⟩) (n + 1) c (xs.take (i * size) ++ vs ++ xs.drop (i * size)) ∧
  Fr F w ((w.setCells b (o + (i + 1) * size) (xs.drop (i * size))).setCells b (o + i * size) vs) := by
 have hcs : 0 < c * size := Nat.mul_pos (by omega) hsz
 obtain ⟨b', o', e', g1, g2, g3⟩ := h.at_ _ rfl hcs
 cases e'
 have hl := h.len
 have e1 : i * size ≤ n * size := Nat.mul_le_mul_right _ hi
 have e2 : (n + 1) * size ≤ c * size := Nat.mul_le_mul_right _ hroom
 have e3 : (n + 1) * size = n * size + size := by rw [Nat.add_mul, Nat.one_mul]
 have e4 : (i + 1) * size = i * size + size := by rw [Nat.add_mul, Nat.one_mul]
 have hd : (xs.drop (i * size)).length = n * size - i * size := by rw [List.length_drop, hl]
 have ht : (xs.take (i * size)).length = i * size := by rw [List.length_take, hl]; omega
 have s1 := some_cells g3 ((i + 1) * size) (xs.drop (i * size))
 refine ⟨fun j hj => by rw [Nat.add_assoc]; exact g3 _ (by omega), fun j hj => by rw [Nat.add_assoc]; exact s1 _ (by omega), ?_, ?_⟩
 ·refine h.redo (n + 1) hroom _ (by rw [List.length_append, List.length_append, ht, hd, hvs]; omega) (fun u hu => ?_) (fun _ => ⟨fun j u hu => ?_, some_cells s1 _ _⟩)
  ·rcases List.mem_append.1 hu with hu | hu
   ·rcases List.mem_append.1 hu with hu | hu
    ·exact h.one u (List.mem_of_mem_take hu)
    ·exact h1 u hu
   ·exact h.one u (List.mem_of_mem_drop hu)
  ·by_cases ha : j < i * size
   ·rw [List.append_assoc, List.getElem?_append_left (by omega), List.getElem?_take_of_lt ha] at hu
    rw [out_cells _ _ (.inl ha), out_cells _ _ (.inl (by omega))]
    exact g2 j u hu
   ·by_cases hb : j < i * size + size
    ·rw [List.append_assoc, List.getElem?_append_right (by omega), List.getElem?_append_left (by omega), ht] at hu
     exact in_cells s1 _ _ (by omega) (by omega) hu
    ·rw [List.getElem?_append_right (by rw [List.length_append]; omega), List.length_append, ht, hvs] at hu
     rw [out_cells _ _ (.inr (by omega))]
     exact in_cells g3 _ _ (by omega) (by omega) (by rw [e4]; exact hu)
 ·exact (fr_cells h ((i + 1) * size) (xs.drop (i * size)) (by omega)).trans ((Fr.setCells _ b (o + i * size) vs).mono (S' := F) fun k j hr => by
   obtain ⟨e, h2, h3⟩ := hr
   subst e
   have := g1 (j - o) (by omega)
   rwa [show o + (j - o) = j by omega] at this) (fun _ _ h => .inl h)
theorem wpList_copyR {P : Program} {w : World} {ops : Array Oper} {rest : List Oper} {o : Oper} {a : Act} {Q : Exit → Act → World → Prop} (hgd : o.guard = none) (d s : Operand) (t t' : TypeId)
  (ho : o.op = .call { callee := .builtin .copy, args := #[d, s], argTypes := #[t, t'] }) (v u : Value) (hd : a.eval d = v) (hs : a.eval s = u) {v' : Value} {w' : World}
  (hr : (Builtin.copy_ #[t, t'] o.type #[v, u]).run P w = .ok v' w') (h : wpList P ops Q rest (a.put o.dst v') w') : wpList P ops Q (o :: rest) a w := by
 refine wpList_plain hgd fun K hK => ?_
 unfold Oper.wp
 simp [execOp, ho, resolve, invoke, builtin, hd, hs, hr, Result.andThen]
 exact hK _ _ h
theorem step_copyR {P : Program} {w : World} {ops : Array Oper} {o : Oper} {a : Act} {K : Act → World → Prop} {Q : Exit → Act → World → Prop} {E : Prop} (hgd : o.guard = none) (d s : Operand) (t t' : TypeId)
  (ho : o.op = .call { callee := .builtin .copy, args := #[d, s], argTypes := #[t, t'] }) (v u : Value) (hd : a.eval d = v) (hs : a.eval s = u) {v' : Value} {w' : World}
  (hr : (Builtin.copy_ #[t, t'] o.type #[v, u]).run P w = .ok v' w') (h : K (a.put o.dst v') w') : if Region.wanted o (yielded ops a.tmps) = true then Oper.wp P o a w K Q else E := by
 have hw : Region.wanted o (yielded ops a.tmps) = true := by simp [Region.wanted, hgd]
 rw [if_pos hw]
 unfold Oper.wp
 simp [execOp, ho, resolve, invoke, builtin, hd, hs, hr, Result.andThen]
 exact h
theorem step_appR {P : Program} {w : World} {ops : Array Oper} {o : Oper} {a : Act} {K : Act → World → Prop} {Q : Exit → Act → World → Prop} {E : Prop} (hgd : o.guard = none) (d s : Operand) (t t' : TypeId)
  (ho : o.op = .call { callee := .builtin .append, args := #[d, s], argTypes := #[t, t'] }) (v u : Value) (hd : a.eval d = v) (hs : a.eval s = u) {v' : Value} {w' : World}
  (hr : (Builtin.append_ #[t, t'] o.type #[v, u]).run P w = .ok v' w') (h : K (a.put o.dst v') w') : if Region.wanted o (yielded ops a.tmps) = true then Oper.wp P o a w K Q else E := by
 have hw : Region.wanted o (yielded ops a.tmps) = true := by simp [Region.wanted, hgd]
 rw [if_pos hw]
 unfold Oper.wp
 simp [execOp, ho, resolve, invoke, builtin, hd, hs, hr, Result.andThen]
 exact h
theorem wpList_appR {P : Program} {w : World} {ops : Array Oper} {rest : List Oper} {o : Oper} {a : Act} {Q : Exit → Act → World → Prop} (hgd : o.guard = none) (d s : Operand) (t t' : TypeId)
  (ho : o.op = .call { callee := .builtin .append, args := #[d, s], argTypes := #[t, t'] }) (v u : Value) (hd : a.eval d = v) (hs : a.eval s = u) {v' : Value} {w' : World}
  (hr : (Builtin.append_ #[t, t'] o.type #[v, u]).run P w = .ok v' w') (h : wpList P ops Q rest (a.put o.dst v') w') : wpList P ops Q (o :: rest) a w := by
 refine wpList_plain hgd fun K hK => ?_
 unfold Oper.wp
 simp [execOp, ho, resolve, invoke, builtin, hd, hs, hr, Result.andThen]
 exact hK _ _ h
theorem wpList_clearR {P : Program} {w : World} {ops : Array Oper} {rest : List Oper} {o : Oper} {a : Act} {Q : Exit → Act → World → Prop} (hgd : o.guard = none) (d : Operand) (t : TypeId)
  (ho : o.op = .call { callee := .builtin .clear, args := #[d], argTypes := #[t] }) (v : Value) (hd : a.eval d = v) {v' : Value} {w' : World}
  (hr : (Builtin.clear_ #[t] o.type #[v]).run P w = .ok v' w') (h : wpList P ops Q rest (a.put o.dst v') w') : wpList P ops Q (o :: rest) a w := by
 refine wpList_plain hgd fun K hK => ?_
 unfold Oper.wp
 simp [execOp, ho, resolve, invoke, builtin, hd, hr, Result.andThen]
 exact hK _ _ h
structure Raw (w : World) (N m : Nat) (zs : List Value) : Prop where
 lt : N < w.heap.size
 all : ∀ i, i < m → (w.cell? ⟨N, i, none⟩).isSome = true ∧ w.frozen? ⟨N, i, none⟩ = false
 cell : ∀ i u, zs[i]? = some u → w.cell? ⟨N, i, none⟩ = some u
theorem Raw.set {w : World} {N m : Nat} {zs : List Value} (h : Raw w N m zs) (ys : List Value) (hm : zs.length + ys.length ≤ m) : Raw (w.setCells N zs.length ys) N m (zs ++ ys) := by
 have h' : ∀ i, i < m → (w.cell? ⟨N, 0 + i, none⟩).isSome = true ∧ w.frozen? ⟨N, 0 + i, none⟩ = false := fun i hi => by rw [Nat.zero_add]; exact h.all i hi
 refine ⟨Nat.lt_of_lt_of_le h.lt (Fr.setCells w N zs.length ys).size, fun i hi => ?_, fun i u hu => ?_⟩
 ·have := some_cells h' zs.length ys i hi
  rwa [Nat.zero_add, Nat.zero_add] at this
 ·by_cases hi : i < zs.length
  ·rw [List.getElem?_append_left hi] at hu
   have := out_cells (w := w) (b := N) (o := 0) zs.length ys (.inl hi)
   rw [Nat.zero_add, Nat.zero_add] at this
   rw [this]
   exact h.cell i u hu
  ·rw [List.getElem?_append_right (by omega)] at hu
   have := in_cells h' zs.length ys hm (by omega) hu
   rwa [Nat.zero_add, Nat.zero_add] at this
theorem Raw.same {w W : World} {N m : Nat} {zs : List Value} (h : Raw w N m zs) (hs : W.heap.size = w.heap.size) (hc : ∀ x, W.cell? x = w.cell? x) (hf : ∀ x, W.frozen? x = w.frozen? x) : Raw W N m zs :=
 ⟨by rw [hs]; exact h.lt, fun i hi => by rw [hc, hf]; exact h.all i hi, fun i u hu => by rw [hc]; exact h.cell i u hu⟩
theorem Raw.sl {w : World} {N m size n c : Nat} {zs : List Value} (h : Raw w N m zs) (hl : zs.length = n * size) (hn : n ≤ c) (hc : c ≤ maxLen) (hm : m = c * size) (h1 : ∀ u ∈ zs, u.oneCell' = true) : Sl w size (fun k _ => k = N) (some ⟨N, 0, none⟩) n c zs :=
 ⟨hl, hn, hc, (fun h => by cases h), h1, fun x hx _ => by
  cases hx
  exact ⟨N, 0, rfl, fun _ _ => rfl, fun i u hu => by rw [Nat.zero_add]; exact h.cell i u hu, fun i hi => by rw [Nat.zero_add]; exact h.all i (by omega)⟩⟩
theorem run_grow {P : Program} (w : World) (t tn e : TypeId) (i : TypeInfo) (z : Value) (size bytes : Nat) (kq kn : IntKind) (ht : P.underlying t = some (.slice e)) (htn : P.underlying tn = some (.int kn)) (hi : P.info? e = some i) (hz : i.zero = some z) (hsize : i.size = size) (hby : i.bytes = bytes) (hzs : z.cells.size = size) (hsz : 0 < size)
  {F : Foot} (b o j c : Nat) (xs : List Value) (h : Sl w size F (some ⟨b, o, none⟩) j c xs) (k : Nat) (h0 : 0 < k) (hg : c < j + k) (hbytes : (j + k) * bytes ≤ 140737488355328) (h63 : j + k ≤ 1000000000) :
  ∃ G w', (∀ ty, (Builtin.append_ #[t, tn] ty #[.slice (some ⟨b, o, none⟩) j c, .int kq k]).run P w = .ok (.slice (some ⟨w.heap.size, 0, none⟩) (j + k) G) w') ∧ j + k ≤ G ∧ G ≤ maxLen ∧ Raw w' w.heap.size (G * size) xs ∧ Below w.heap.size w w' := by
 have hcs : 0 < c * size → _ := h.at_ _ rfl
 have hold : (Builtin.firstCells i.size j (.slice (some ⟨b, o, none⟩) j c)).run P w.drew = .ok xs.toArray w.drew := by
  rw [hsize]
  refine run_firstCells_some w.drew size j ⟨b, o, none⟩ j c xs h.len (fun q v hq => ?_)
  have hlt := (List.getElem?_eq_some_iff.1 hq).1
  rw [h.len] at hlt
  have := Nat.mul_le_mul_right size h.le
  obtain ⟨b', o', e, _, g2, _⟩ := hcs (by omega)
  cases e
  rw [Addr.add_lit]
  exact g2 q v hq
 have hkb : k * i.bytes ≤ 281474976710656 := by
  rw [hby]
  have := Nat.mul_le_mul_right bytes (show k ≤ j + k by omega)
  omega
 have hrun := fun ty => Lib.run_append_grow_zeros w t tn ty e i z kq kn ht htn hi hz (some ⟨b, o, none⟩) j c xs hold k h0 (by rw [hsize]; exact hsz) hg (by omega) hkb (by rw [hby]; exact growslice_fits hg hbytes)
 have hG1 : j + k ≤ grownCap w (j + k) c e := grownCap_ge w _ _ _
 have hG2 : grownCap w (j + k) c e ≤ maxLen := grownCap_le_maxLen w (j + k) c e (by unfold maxLen; omega)
 generalize grownCap w (j + k) c e = G at *
 have hzl : ∀ q, (Builtin.zeroCells z.cells q).size = q * size := fun q => by simp [Builtin.zeroCells, hzs]
 have hsum : (xs.toArray ++ Builtin.zeroCells z.cells k ++ Builtin.zeroCells z.cells (G - (j + k))).size = G * size := by
  rw [Array.size_append, Array.size_append, hzl, hzl, List.size_toArray, h.len, ← Nat.add_mul, ← Nat.add_mul]
  congr 1; omega
 generalize hR : xs.toArray ++ Builtin.zeroCells z.cells k ++ Builtin.zeroCells z.cells (G - (j + k)) = R at *
 have hh : (w.drew.alloc (.cells R e)).heap[w.heap.size]? = some (.cells R e (0, 0)) := heap_alloc_new w.drew _
 refine ⟨G, _, hrun, hG1, hG2, ⟨by simp, fun q hq => ⟨?_, ?_⟩, fun q u hu => ?_⟩, ((Below.refl _ _).drew).alloc (Nat.le_refl _) _⟩
 ·rw [cell_of_row _ w.heap.size q R e (0, 0) hh, Array.getElem?_eq_getElem (by omega)]; rfl
 ·unfold World.frozen?; rw [hh]; simp
 ·rw [cell_of_row _ w.heap.size q R e (0, 0) hh, ← hR, Array.append_assoc]
  have hlt := (List.getElem?_eq_some_iff.1 hu).1
  rw [Array.getElem?_append_left (by simpa using hlt)]
  simpa using hu
end Go.Proofs.YtecnijnmgdfdhaaGreat

namespace Go.Proofs.YtecnijnmgdfdhaaGreat
open Go.RowKit
theorem Tryz.infoPair : (Tryz.prog.info? 168).map (fun i => (i.zero, i.size, i.bytes)) = some (some (.agg #[.string ⟨#[]⟩, .string ⟨#[]⟩]), 2, 32) := by kernel_rfl
theorem Tryz.infoNodeP : (Tryz.prog.info? 152).map (fun i => (i.zero, i.size, i.bytes)) = some (some (.pointer none), 1, 8) := by kernel_rfl
theorem drew_setCells (b : Nat) : ∀ (vs : List Value) (o : Nat) (w : World), (w.setCells b o vs).drew = w.drew.setCells b o vs
 | [], _, _ => rfl
 | v :: r, o, w => by rw [World.setCells, World.setCells, drew_setCells b r]; rfl
def GivesI_pair (w : World) (F : Foot) (n : Nat) (ys : List Value) (e : Ending) (w' : World) : Prop := ∃ a' c' F', e = .returned (.slice a' (n + 1) c') ∧ Sl w' 2 F' a' (n + 1) c' ys ∧ Fr F w w' ∧ Grew w F F' ∧ Lies w' F'
set_option maxRecDepth 100000 in
set_option maxHeartbeats 1000000 in
theorem insert_pair_end (F : Foot) (a : Option Addr) (n c : Nat) (xs : List Value) (vb : Nat) (vs : List Value) (hv : vs.length = 2) (hn : n ≤ 1000000) (w : World) (h : Sl w 2 F a n c xs) (hl : Lies w F) (hA : Arg w vb vs) :
  Calls Tryz.prog 126 #[.slice a n c, .int .i64 n, .slice (some ⟨vb, 0, none⟩) 1 1] w (GivesI_pair w F n (xs ++ vs)) := by
 obtain ⟨i0, hi, hz0, hz1, hz2⟩ := info_parts Tryz.infoPair
 obtain ⟨sa, hsl, _⟩ := from_ex (P := Tryz.prog) 169 Tryz.underlying169 2 Tryz.sizeOf168 h.rd .i64 n (Nat.le_refl _)
 have hn2 : (n : Int) ≤ 1000000 := by omega
 have H0 := Lib.hid h
 have H1 := Lib.hid hl
 have H2 := Lib.hid (hA.rd (size := 2) (n := 1) (by rw [hv]) (by decide))
 clear h hl hA hv
 go_enter Tryz.func126, Tryz.ntmps126
 go_wp2_with (at_builtin; refine wpList_app_sl rfl (.tmp 23) (.tmp 24) 169 rfl 168 i0 _ 2 32 Tryz.underlying169 hi hz0 hz1 hz2 rfl (by decide) F a n c xs rfl H0.out H1.out (some ⟨vb, 0, none⟩) 1 1 vs rfl H2.out (n + 1) (xs ++ vs) rfl rfl (by unfold maxLen; omega) (by omega) ?_; intro a1 c1 w1 F1 hsl1 hfr hgr hli; have H3 := Lib.hid (And.intro hsl1 (And.intro hfr (And.intro hgr hli))); clear hsl1 hfr hgr hli)
 go_ret
 exact ⟨a1, c1, F1, rfl, H3.out⟩
set_option maxRecDepth 100000 in
set_option maxHeartbeats 2000000 in
theorem insert_pair_room (F : Foot) (a : Option Addr) (n c i : Nat) (xs : List Value) (vb : Nat) (vs : List Value) (hv : vs.length = 2) (hn : n ≤ 1000000) (hlt : i < n) (hroom : n + 1 ≤ c) (w : World) (h : Sl w 2 F a n c xs) (hl : Lies w F) (hA : Arg w vb vs) (hF : ∀ o, ¬ F vb o) :
  Calls Tryz.prog 126 #[.slice a n c, .int .i64 i, .slice (some ⟨vb, 0, none⟩) 1 1] w (GivesI_pair w F n (xs.take (i * 2) ++ (vs ++ xs.drop (i * 2)))) := by
 obtain ⟨b, o, rfl, hin, hcell, hall⟩ := h.addr (by omega)
 have hc63 : (c : Int) ≤ 9223372036854775807 := by have := h.cap; unfold maxLen at this; omega
 obtain ⟨hs1, hs2, hs3, hs4⟩ := h.shift (by decide) i (by omega) hroom vs hv hA.one
 have hov : ∀ la ca lb cb, (callFunc 156 #[.slice (some ⟨vb, 0, none⟩) la ca, .slice (some ⟨b, o + (i + 1) * 2, none⟩) lb cb]).run Tryz.prog w = .ok (.value (.bool false)) w := fun la ca lb cb => by
  rw [run_callFunc_extern Tryz.func156 (by kernel_rfl) (by kernel_rfl) (by kernel_rfl) (e := Extern.SlicesOverlaps.overlaps #[169, 169] #[4]) (by kernel_rfl),
   run_overlaps w 169 4 168 Tryz.underlying169 2 Tryz.sizeOf168 (by decide) vb vs hA b o n c xs h (by omega) hF la ca lb cb ((i + 1) * 2)]
  rfl
 have hcp1 : ∀ ty dc sc, (Builtin.copy_ #[169, 169] ty #[.slice (some ⟨b, o + (i + 1) * 2, none⟩) (n - i) dc, .slice (some ⟨b, o + i * 2, none⟩) (n + 1 - i) sc]).run Tryz.prog w.drew = .ok (goInt (Nat.min (n + 1 - i) (n - i))) (w.drew.setCells b (o + (i + 1) * 2) (xs.drop (i * 2))) := fun ty dc sc =>
  run_copy_any w.drew 169 169 ty 168 2 b (o + (i + 1) * 2) (n - i) dc ⟨b, o + i * 2, none⟩ (n + 1 - i) sc (xs.drop (i * 2)) Tryz.underlying169 (by kernel_rfl) (by rw [List.length_drop, h.len]; simp only [Nat.min_def]; split <;> omega)
   (fun j v hj => by rw [List.getElem?_drop] at hj; rw [Addr.add_lit, Nat.add_assoc]; exact hcell _ v hj) hs1 (fun v hv => h.one v (List.mem_of_mem_drop hv))
 obtain ⟨W1, hW1⟩ : ∃ W1, W1 = w.drew.setCells b (o + (i + 1) * 2) (xs.drop (i * 2)) := ⟨_, rfl⟩
 have hcp2 : ∀ ty dc, (Builtin.copy_ #[169, 169] ty #[.slice (some ⟨b, o + i * 2, none⟩) (n + 1 - i) dc, .slice (some ⟨vb, 0, none⟩) 1 1]).run Tryz.prog W1 = .ok (goInt (Nat.min 1 (n + 1 - i))) (W1.setCells b (o + i * 2) vs) := fun ty dc => by
  have e1 : ∀ x, (w.drew.setCells b (o + (i + 1) * 2) (xs.drop (i * 2))).cell? x = (w.setCells b (o + (i + 1) * 2) (xs.drop (i * 2))).cell? x := fun x => by rw [← drew_setCells]; rfl
  have e2 : ∀ x, (w.drew.setCells b (o + (i + 1) * 2) (xs.drop (i * 2))).frozen? x = (w.setCells b (o + (i + 1) * 2) (xs.drop (i * 2))).frozen? x := fun x => by rw [← drew_setCells]; rfl
  refine run_copy_any W1 169 169 ty 168 2 b (o + i * 2) (n + 1 - i) dc ⟨vb, 0, none⟩ 1 1 vs Tryz.underlying169 (by kernel_rfl) (by rw [hv]; simp only [Nat.min_def]; split <;> omega) (fun j v hj => ?_) (fun j hj => ?_) hA.one
  ·have hbv : vb ≠ b := fun e => hF (o + 0) (by have := hin 0 (by omega); rwa [← e] at this)
   rw [hW1, Addr.add_lit, Nat.zero_add, e1, World.cell?_setCells_out _ _ _ _ _ (fun h _ => absurd h hbv)]
   exact hA.cell j v hj
  ·rw [hW1, e1, e2]; exact hs2 j hj
 have HE : Hid (Sl (W1.setCells b (o + i * 2) vs) 2 F (some ⟨b, o, none⟩) (n + 1) c (xs.take (i * 2) ++ (vs ++ xs.drop (i * 2))) ∧ Fr F w (W1.setCells b (o + i * 2) vs)) := Lib.hid (by
  rw [← List.append_assoc, hW1, ← drew_setCells, ← drew_setCells]; exact ⟨hs3.fr (Fr.refl noCells _).drew (fun _ _ _ h => h), hs4.drew⟩)
 rw [← hW1] at hcp1
 have HL := Lib.hid hl
 have hi0 : ((i : Int) == (n : Int)) = false := beq_eq_false_iff_ne.2 (by omega)
 have hb4 : ¬ (c = i) := by omega
 have hb5 : ¬ (c = i + 1) := by omega
 have hw1 : IntKind.i64.wrap ((i : Int) + 1) = (i : Int) + 1 := by rw [IntKind.wrap_i64]; omega
 have hb1 : (0 : Int) ≤ (i : Int) + 1 := by omega
 have htn : ((i : Int) + 1).toNat = i + 1 := by omega
 have hb3 : (i : Int) ≤ (n : Int) := by omega
 have hb6 : n + 1 - (i + 1) = n - i := by omega
 have hb7 : (i : Int) ≤ (n : Int) + 1 := by omega
 clear hs1 hs2 hs3 hs4 hall hcell hin h hl hA hF hv hW1
 go_enter Tryz.func126, Tryz.ntmps126
 go_wp2_with (simp only [hov])
 go_region_law (refine step_copyR rfl _ _ 169 169 rfl _ _ (by simp [Act.eval, Act.put]) (by simp [Act.eval, Act.put]) (hcp1 _ _ _) ?_)
 go_wp2_with (at_builtin; refine wpList_copyR rfl _ _ 169 169 rfl _ _ rfl rfl (hcp2 _ _) ?_)
 go_ret
 exact ⟨_, _, F, rfl, HE.out.1, HE.out.2, Grew.refl _ _, HL.out.later HE.out.2⟩
set_option maxRecDepth 100000 in
set_option maxHeartbeats 2000000 in
theorem insert_pair_grow (F : Foot) (a : Option Addr) (n c i : Nat) (xs : List Value) (vb : Nat) (vs : List Value) (hv : vs.length = 2) (hn : n ≤ 1000000) (hlt : i < n) (hroom : c < n + 1) (w : World) (h : Sl w 2 F a n c xs) (hA : Arg w vb vs) :
  Calls Tryz.prog 126 #[.slice a n c, .int .i64 i, .slice (some ⟨vb, 0, none⟩) 1 1] w (GivesI_pair w F n (xs.take (i * 2) ++ (vs ++ xs.drop (i * 2)))) := by
 obtain ⟨i0, hi, hz0, hz1, hz2⟩ := info_parts Tryz.infoPair
 obtain ⟨b, o, rfl, hin, hcell, hall⟩ := h.addr (by omega)
 have hle := h.le
 have hbw : b < w.heap.size := by
  obtain ⟨u, hu⟩ := Option.isSome_iff_exists.1 (hall 0 (by omega)).1
  exact block_of_cell hu
 have hvw := hA.lt
 have hpl : (xs.take (i * 2)).length = i * 2 := by rw [List.length_take, h.len]; omega
 have hdl : (xs.drop (i * 2)).length = (n - i) * 2 := by rw [List.length_drop, h.len]; omega
 obtain ⟨G, w1, hr, hG1, hG2, hraw, hbel⟩ := run_grow (P := Tryz.prog) w 169 3 168 i0 _ 2 32 .i64 .i64 Tryz.underlying169 Tryz.underlying3 hi hz0 hz1 hz2 rfl (by decide) b o i c _ (h.prefix_ i (by omega)) (n + 1 - i) (by omega) (by omega) (by omega) (by omega)
 have hkk : ((n + 1 - i : Nat) : Int) = (n : Int) + 1 - (i : Int) := by omega
 rw [hkk, show i + (n + 1 - i) = n + 1 by omega] at hr
 rw [show i + (n + 1 - i) = n + 1 by omega] at hG1
 obtain ⟨N, hN⟩ : ∃ N, w.heap.size = N := ⟨_, rfl⟩
 have hbN : b ≠ N := by omega
 have hvN : vb ≠ N := by omega
 have hcA : ∀ ty dc, (Builtin.copy_ #[169, 169] ty #[.slice (some ⟨N, i * 2, none⟩) (n + 1 - i) dc, .slice (some ⟨vb, 0, none⟩) 1 1]).run Tryz.prog w1 = .ok (goInt (Nat.min 1 (n + 1 - i))) (w1.setCells N (i * 2) vs) := fun ty dc =>
  run_copy_any w1 169 169 ty 168 2 N (i * 2) (n + 1 - i) dc ⟨vb, 0, none⟩ 1 1 vs Tryz.underlying169 (by kernel_rfl) (by rw [hv]; simp only [Nat.min_def]; split <;> omega)
   (fun j v hj => by rw [Addr.add_lit, Nat.zero_add]; exact (hA.later hbel).cell j v hj) (fun j hj => by rw [← hN]; exact hraw.all _ (by omega)) hA.one
 obtain ⟨w2, hw2⟩ : ∃ w2, w1.setCells N (i * 2) vs = w2 := ⟨_, rfl⟩
 have hraw2 : Raw w2 N (G * 2) (xs.take (i * 2) ++ vs) := by
  have := hraw.set vs (by rw [hpl]; omega)
  rw [hpl, hN, hw2] at this
  exact this
 have hold : ∀ j v, w.cell? ⟨b, j, none⟩ = some v → w2.drew.cell? ⟨b, j, none⟩ = some v := fun j v hj => by
  show w2.cell? _ = _
  rw [← hw2, World.cell?_setCells_out _ _ _ _ _ (fun h _ => absurd h hbN)]
  exact old_cell hj hbel
 have hraw3 : Raw w2.drew N (G * 2) (xs.take (i * 2) ++ vs) := hraw2.same rfl (fun _ => rfl) (fun _ => rfl)
 have hcB : ∀ ty dc sc, (Builtin.copy_ #[169, 169] ty #[.slice (some ⟨N, (i + 1) * 2, none⟩) (n - i) dc, .slice (some ⟨b, o + i * 2, none⟩) (n - i) sc]).run Tryz.prog w2.drew = .ok (goInt (Nat.min (n - i) (n - i))) (w2.drew.setCells N ((i + 1) * 2) (xs.drop (i * 2))) := fun ty dc sc =>
  run_copy_any w2.drew 169 169 ty 168 2 N ((i + 1) * 2) (n - i) dc ⟨b, o + i * 2, none⟩ (n - i) sc (xs.drop (i * 2)) Tryz.underlying169 (by kernel_rfl) (by rw [hdl]; simp only [Nat.min_def]; split <;> omega)
   (fun j v hj => by rw [List.getElem?_drop] at hj; rw [Addr.add_lit, Nat.add_assoc]; exact hold _ v (hcell _ v hj)) (fun j hj => hraw3.all _ (by omega)) (fun v hv => h.one v (List.mem_of_mem_drop hv))
 have hlen2 : (xs.take (i * 2) ++ vs).length = (i + 1) * 2 := by rw [List.length_append, hpl, hv]; omega
 have hraw4 := hraw3.set (xs.drop (i * 2)) (by rw [hlen2, hdl]; omega)
 rw [hlen2] at hraw4
 obtain ⟨w3, hw3⟩ : ∃ w3, w2.drew.setCells N ((i + 1) * 2) (xs.drop (i * 2)) = w3 := ⟨_, rfl⟩
 rw [hw3] at hcB hraw4
 have HE : Hid (Sl w3 2 (fun k _ => k = N) (some ⟨N, 0, none⟩) (n + 1) G (xs.take (i * 2) ++ (vs ++ xs.drop (i * 2))) ∧ Fr F w w3 ∧ Grew w F (fun k _ => k = N) ∧ Lies w3 (fun k _ => k = N)) := Lib.hid (by
  refine ⟨?_, ?_, fun k _ e => .inr (by omega), fun k _ e => by subst e; exact hraw4.lt⟩
  ·rw [← List.append_assoc]
   refine hraw4.sl (by rw [List.length_append, hlen2, hdl]; omega) hG1 hG2 rfl (fun u hu => ?_)
   rcases List.mem_append.1 hu with hu | hu
   ·rcases List.mem_append.1 hu with hu | hu
    ·exact h.one u (List.mem_of_mem_take hu)
    ·exact hA.one u hu
   ·exact h.one u (List.mem_of_mem_drop hu)
  ·have f1 : Fr F w w2 := (Fr.ofBelow hbel F).trans (by rw [← hw2]; exact Fr.setCells w1 N (i * 2) vs) (fun k _ e => .inr (by have := e.1; omega))
   exact f1.drew.trans (by rw [← hw3]; exact Fr.setCells w2.drew N ((i + 1) * 2) (xs.drop (i * 2))) (fun k _ e => .inr (by have := e.1; omega)))
 rw [hw2] at hcA
 rw [hN] at hr
 have hi0 : ((i : Int) == (n : Int)) = false := beq_eq_false_iff_ne.2 (by omega)
 have hb4 : ¬ (c = i) := by omega
 have hb8 : (c : Int) < (n : Int) + 1 := by omega
 have hG3 : ¬ (G = i) := by omega
 have hG4 : ¬ (G = i + 1) := by omega
 have hw1 : IntKind.i64.wrap ((i : Int) + 1) = (i : Int) + 1 := by rw [IntKind.wrap_i64]; omega
 have hb1 : (0 : Int) ≤ (i : Int) + 1 := by omega
 have htn : ((i : Int) + 1).toNat = i + 1 := by omega
 have hb3 : (i : Int) ≤ (n : Int) := by omega
 have hb6 : n + 1 - (i + 1) = n - i := by omega
 have hb7 : (i : Int) ≤ (n : Int) + 1 := by omega
 have hG63 : (G : Int) ≤ 9223372036854775807 := by unfold maxLen at hG2; omega
 clear hraw hraw2 hraw3 hraw4 hold hcell hall hin hpl hdl hw2 hw3 hbel hA hv hkk hlen2 hbw hvw hN hi hz0 hz1 hz2
 go_enter Tryz.func126, Tryz.ntmps126
 go_wp2_with (first
  | (at_builtin; refine wpList_appR rfl _ _ 169 3 rfl _ _ rfl rfl (hr _) ?_)
  | (refine wpList_copyR rfl _ _ 169 169 rfl _ _ rfl rfl (hcA _ _) ?_))
 go_region_law (refine step_copyR rfl _ _ 169 169 rfl _ _ (by simp [Act.eval, Act.put]) (by simp [Act.eval, Act.put]) (hcB _ _ _) ?_)
 go_wp2
 go_ret
 exact ⟨_, _, _, rfl, HE.out⟩
theorem insert_pair (F : Foot) (a : Option Addr) (n c i : Nat) (xs : List Value) (vb : Nat) (vs : List Value) (hv : vs.length = 2) (hn : n ≤ 1000000) (hi : i ≤ n) (w : World) (h : Sl w 2 F a n c xs) (hl : Lies w F) (hA : Arg w vb vs) (hF : ∀ o, ¬ F vb o) :
  Calls Tryz.prog 126 #[.slice a n c, .int .i64 i, .slice (some ⟨vb, 0, none⟩) 1 1] w (GivesI_pair w F n (xs.take (i * 2) ++ (vs ++ xs.drop (i * 2)))) := by
 rcases Nat.lt_or_ge i n with hlt | hge
 ·rcases Nat.lt_or_ge c (n + 1) with hr | hr
  ·exact insert_pair_grow F a n c i xs vb vs hv hn hlt hr w h hA
  ·exact insert_pair_room F a n c i xs vb vs hv hn hlt hr w h hl hA hF
 ·obtain rfl : i = n := by omega
  have e : xs.take (i * 2) ++ (vs ++ xs.drop (i * 2)) = xs ++ vs := by
   rw [List.take_of_length_le (by rw [h.len]; omega), List.drop_of_length_le (by rw [h.len]; omega), List.append_nil]
  rw [e]
  exact insert_pair_end F a i c xs vb vs hv hn w h hl hA
theorem zone_pair : ∀ v ∈ (Builtin.zeroCells (Value.agg #[.string ⟨#[]⟩, .string ⟨#[]⟩]).cells 1).toList, v.oneCell' = true := by
 have e : (Builtin.zeroCells (Value.agg #[.string ⟨#[]⟩, .string ⟨#[]⟩]).cells 1).toList = [.string ⟨#[]⟩, .string ⟨#[]⟩] := by kernel_rfl
 rw [e]
 intro v hv
 simp at hv
 subst hv
 rfl
def GivesD_pair (w : World) (F : Foot) (a : Option Addr) (n c : Nat) (ys : List Value) (e : Ending) (w' : World) : Prop := e = .returned (.slice a n c) ∧ Sl w' 2 F a n c ys ∧ Fr F w w'
set_option maxRecDepth 100000 in
set_option maxHeartbeats 2000000 in
theorem delete_pair (F : Foot) (a : Option Addr) (n c i : Nat) (xs : List Value) (hn : n ≤ 1000000) (hlt : i < n) (w : World) (h : Sl w 2 F a n c xs) :
  Calls Tryz.prog 132 #[.slice a n c, .int .i64 i, .int .i64 ((i : Int) + 1)] w (GivesD_pair w F a (n - 1) c (xs.take (i * 2) ++ xs.drop ((i + 1) * 2))) := by
 obtain ⟨i0, hi, hz0, hz1, hz2⟩ := info_parts Tryz.infoPair
 obtain ⟨b, o, rfl, hin, hcell, hall⟩ := h.addr (by omega)
 have hle := h.le
 have hc63 : (c : Int) ≤ 9223372036854775807 := by have := h.cap; unfold maxLen at this; omega
 obtain ⟨sa, hsl, hsr⟩ := from_ex (P := Tryz.prog) 169 Tryz.underlying169 2 Tryz.sizeOf168 h.rd .i64 (i + 1) (by omega)
 have ecast : ((i + 1 : Nat) : Int) = (i : Int) + 1 := by omega
 rw [ecast] at hsl
 have hpre := (h.prefix_ i (by omega)).fr (Fr.refl noCells w).drew (fun _ _ _ h => h)
 have hrd := hsr w.drew (h.fr (Fr.refl noCells w).drew (fun _ _ _ h => h)).rd
 obtain ⟨w1, hr1, hs1, hf1⟩ := run_app_room (P := Tryz.prog) 169 169 168 i0 2 Tryz.underlying169 hi hz1 (by decide) b o i c _ hpre sa (n - (i + 1)) (c - (i + 1)) _ hrd (by omega)
 rw [show i + (n - (i + 1)) = n - 1 by omega] at hr1 hs1
 obtain ⟨w2, hr2, hs2, hf2⟩ := run_clear_one (P := Tryz.prog) 169 168 0 (.agg #[.string ⟨#[]⟩, .string ⟨#[]⟩]) 2 Tryz.underlying169 (fun W => by kernel_rfl) rfl (by decide) zone_pair b o (n - 1) c (c - (n - 1)) _ hs1 (by omega)
 have HE : Hid (Sl w2 2 F (some ⟨b, o, none⟩) (n - 1) c (xs.take (i * 2) ++ xs.drop ((i + 1) * 2)) ∧ Fr F w w2) := Lib.hid ⟨hs2, ((Fr.refl F w).drew.trans hf1 (fun _ _ h => .inl h)).trans hf2 (fun _ _ h => .inl h)⟩
 have hne : ((i : Int) == (i : Int) + 1) = false := beq_eq_false_iff_ne.2 (by omega)
 have hb1 : (i : Int) + 1 ≤ (n : Int) := by omega
 have hb2 : ¬ (c = n - 1) := by omega
 have hn0 : ((n - 1 : Nat) : Int) = (n : Int) - 1 := by omega
 have hn1 : n - (n - 1) = 1 := by omega
 have hb3 : (n : Int) - 1 ≤ (n : Int) := by omega
 have hb4 : (0 : Int) ≤ (n : Int) - 1 := by omega
 have hb5 : ((n : Int) - 1).toNat = n - 1 := by omega
 have hb6 : (i : Int) ≤ (n : Int) := by omega
 have hb7 : (n : Int) ≤ (c : Int) := by omega
 have hb8 : (i : Int) ≤ (c : Int) := by omega
 have hw1 : IntKind.i64.wrap ((i : Int) + 1) = (i : Int) + 1 := by rw [IntKind.wrap_i64]; omega
 clear ecast hcell hall hin hs1 hs2 hf1 hf2 hpre hrd hsr h hi hz0 hz1 hz2
 go_enter Tryz.func132, Tryz.ntmps132
 go_wp2
 go_region_law (refine step_appR rfl _ _ 169 169 rfl _ _ (by simp [Act.eval, Act.put]) (by simp [Act.eval, Act.put]) hr1 ?_)
 go_wp2_with (first
  | (refine wpList_clearR rfl _ 169 rfl _ rfl hr2 ?_))
 go_ret
 exact ⟨rfl, HE.out⟩

def GivesI_node (w : World) (F : Foot) (n : Nat) (ys : List Value) (e : Ending) (w' : World) : Prop := ∃ a' c' F', e = .returned (.slice a' (n + 1) c') ∧ Sl w' 1 F' a' (n + 1) c' ys ∧ Fr F w w' ∧ Grew w F F' ∧ Lies w' F'
set_option maxRecDepth 100000 in
set_option maxHeartbeats 1000000 in
theorem insert_node_end (F : Foot) (a : Option Addr) (n c : Nat) (xs : List Value) (vb : Nat) (vs : List Value) (hv : vs.length = 1) (hn : n ≤ 1000000) (w : World) (h : Sl w 1 F a n c xs) (hl : Lies w F) (hA : Arg w vb vs) :
  Calls Tryz.prog 127 #[.slice a n c, .int .i64 n, .slice (some ⟨vb, 0, none⟩) 1 1] w (GivesI_node w F n (xs ++ vs)) := by
 obtain ⟨i0, hi, hz0, hz1, hz2⟩ := info_parts Tryz.infoNodeP
 obtain ⟨sa, hsl, _⟩ := from_ex (P := Tryz.prog) 170 Tryz.underlying170 1 Tryz.sizeOf152 h.rd .i64 n (Nat.le_refl _)
 have hn2 : (n : Int) ≤ 1000000 := by omega
 have H0 := Lib.hid h
 have H1 := Lib.hid hl
 have H2 := Lib.hid (hA.rd (size := 1) (n := 1) (by rw [hv]) (by decide))
 clear h hl hA hv
 go_enter Tryz.func127, Tryz.ntmps127
 go_wp2_with (at_builtin; refine wpList_app_sl rfl (.tmp 23) (.tmp 24) 170 rfl 152 i0 _ 1 8 Tryz.underlying170 hi hz0 hz1 hz2 rfl (by decide) F a n c xs rfl H0.out H1.out (some ⟨vb, 0, none⟩) 1 1 vs rfl H2.out (n + 1) (xs ++ vs) rfl rfl (by unfold maxLen; omega) (by omega) ?_; intro a1 c1 w1 F1 hsl1 hfr hgr hli; have H3 := Lib.hid (And.intro hsl1 (And.intro hfr (And.intro hgr hli))); clear hsl1 hfr hgr hli)
 go_ret
 exact ⟨a1, c1, F1, rfl, H3.out⟩
set_option maxRecDepth 100000 in
set_option maxHeartbeats 2000000 in
theorem insert_node_room (F : Foot) (a : Option Addr) (n c i : Nat) (xs : List Value) (vb : Nat) (vs : List Value) (hv : vs.length = 1) (hn : n ≤ 1000000) (hlt : i < n) (hroom : n + 1 ≤ c) (w : World) (h : Sl w 1 F a n c xs) (hl : Lies w F) (hA : Arg w vb vs) (hF : ∀ o, ¬ F vb o) :
  Calls Tryz.prog 127 #[.slice a n c, .int .i64 i, .slice (some ⟨vb, 0, none⟩) 1 1] w (GivesI_node w F n (xs.take i ++ (vs ++ xs.drop i))) := by
 obtain ⟨b, o, rfl, hin, hcell, hall⟩ := h.addr (by omega)
 have hc63 : (c : Int) ≤ 9223372036854775807 := by have := h.cap; unfold maxLen at this; omega
 obtain ⟨hs1, hs2, hs3, hs4⟩ := h.shift (by decide) i (by omega) hroom vs hv hA.one
 have hov : ∀ la ca lb cb, (callFunc 158 #[.slice (some ⟨vb, 0, none⟩) la ca, .slice (some ⟨b, o + (i + 1) * 1, none⟩) lb cb]).run Tryz.prog w = .ok (.value (.bool false)) w := fun la ca lb cb => by
  rw [run_callFunc_extern Tryz.func158 (by kernel_rfl) (by kernel_rfl) (by kernel_rfl) (e := Extern.SlicesOverlaps.overlaps #[170, 170] #[4]) (by kernel_rfl),
   run_overlaps w 170 4 152 Tryz.underlying170 1 Tryz.sizeOf152 (by decide) vb vs hA b o n c xs h (by omega) hF la ca lb cb ((i + 1) * 1)]
  rfl
 have hcp1 : ∀ ty dc sc, (Builtin.copy_ #[170, 170] ty #[.slice (some ⟨b, o + (i + 1) * 1, none⟩) (n - i) dc, .slice (some ⟨b, o + i * 1, none⟩) (n + 1 - i) sc]).run Tryz.prog w.drew = .ok (goInt (Nat.min (n + 1 - i) (n - i))) (w.drew.setCells b (o + (i + 1) * 1) (xs.drop (i * 1))) := fun ty dc sc =>
  run_copy_any w.drew 170 170 ty 152 1 b (o + (i + 1) * 1) (n - i) dc ⟨b, o + i * 1, none⟩ (n + 1 - i) sc (xs.drop (i * 1)) Tryz.underlying170 (by kernel_rfl) (by rw [List.length_drop, h.len]; simp only [Nat.min_def]; split <;> omega)
   (fun j v hj => by rw [List.getElem?_drop] at hj; rw [Addr.add_lit, Nat.add_assoc]; exact hcell _ v hj) hs1 (fun v hv => h.one v (List.mem_of_mem_drop hv))
 obtain ⟨W1, hW1⟩ : ∃ W1, W1 = w.drew.setCells b (o + (i + 1) * 1) (xs.drop (i * 1)) := ⟨_, rfl⟩
 have hcp2 : ∀ ty dc, (Builtin.copy_ #[170, 170] ty #[.slice (some ⟨b, o + i * 1, none⟩) (n + 1 - i) dc, .slice (some ⟨vb, 0, none⟩) 1 1]).run Tryz.prog W1 = .ok (goInt (Nat.min 1 (n + 1 - i))) (W1.setCells b (o + i * 1) vs) := fun ty dc => by
  have e1 : ∀ x, (w.drew.setCells b (o + (i + 1) * 1) (xs.drop (i * 1))).cell? x = (w.setCells b (o + (i + 1) * 1) (xs.drop (i * 1))).cell? x := fun x => by rw [← drew_setCells]; rfl
  have e2 : ∀ x, (w.drew.setCells b (o + (i + 1) * 1) (xs.drop (i * 1))).frozen? x = (w.setCells b (o + (i + 1) * 1) (xs.drop (i * 1))).frozen? x := fun x => by rw [← drew_setCells]; rfl
  refine run_copy_any W1 170 170 ty 152 1 b (o + i * 1) (n + 1 - i) dc ⟨vb, 0, none⟩ 1 1 vs Tryz.underlying170 (by kernel_rfl) (by rw [hv]; simp only [Nat.min_def]; split <;> omega) (fun j v hj => ?_) (fun j hj => ?_) hA.one
  ·have hbv : vb ≠ b := fun e => hF (o + 0) (by have := hin 0 (by omega); rwa [← e] at this)
   rw [hW1, Addr.add_lit, Nat.zero_add, e1, World.cell?_setCells_out _ _ _ _ _ (fun h _ => absurd h hbv)]
   exact hA.cell j v hj
  ·rw [hW1, e1, e2]; exact hs2 j hj
 have HE : Hid (Sl (W1.setCells b (o + i * 1) vs) 1 F (some ⟨b, o, none⟩) (n + 1) c (xs.take (i * 1) ++ (vs ++ xs.drop (i * 1))) ∧ Fr F w (W1.setCells b (o + i * 1) vs)) := Lib.hid (by
  rw [← List.append_assoc, hW1, ← drew_setCells, ← drew_setCells]; exact ⟨hs3.fr (Fr.refl noCells _).drew (fun _ _ _ h => h), hs4.drew⟩)
 rw [← hW1] at hcp1
 have HL := Lib.hid hl
 simp only [Nat.mul_one] at hov hcp1 hcp2 HE
 have hi0 : ((i : Int) == (n : Int)) = false := beq_eq_false_iff_ne.2 (by omega)
 have hb4 : ¬ (c = i) := by omega
 have hb5 : ¬ (c = i + 1) := by omega
 have hw1 : IntKind.i64.wrap ((i : Int) + 1) = (i : Int) + 1 := by rw [IntKind.wrap_i64]; omega
 have hb1 : (0 : Int) ≤ (i : Int) + 1 := by omega
 have htn : ((i : Int) + 1).toNat = i + 1 := by omega
 have hb3 : (i : Int) ≤ (n : Int) := by omega
 have hb6 : n + 1 - (i + 1) = n - i := by omega
 have hb7 : (i : Int) ≤ (n : Int) + 1 := by omega
 clear hs1 hs2 hs3 hs4 hall hcell hin h hl hA hF hv hW1
 go_enter Tryz.func127, Tryz.ntmps127
 go_wp2_with (simp only [hov])
 go_region_law (refine step_copyR rfl _ _ 170 170 rfl _ _ (by simp [Act.eval, Act.put]) (by simp [Act.eval, Act.put]) (hcp1 _ _ _) ?_)
 go_wp2_with (at_builtin; refine wpList_copyR rfl _ _ 170 170 rfl _ _ rfl rfl (hcp2 _ _) ?_)
 go_ret
 exact ⟨_, _, F, rfl, HE.out.1, HE.out.2, Grew.refl _ _, HL.out.later HE.out.2⟩
set_option maxRecDepth 100000 in
set_option maxHeartbeats 2000000 in
theorem insert_node_grow (F : Foot) (a : Option Addr) (n c i : Nat) (xs : List Value) (vb : Nat) (vs : List Value) (hv : vs.length = 1) (hn : n ≤ 1000000) (hlt : i < n) (hroom : c < n + 1) (w : World) (h : Sl w 1 F a n c xs) (hA : Arg w vb vs) :
  Calls Tryz.prog 127 #[.slice a n c, .int .i64 i, .slice (some ⟨vb, 0, none⟩) 1 1] w (GivesI_node w F n (xs.take i ++ (vs ++ xs.drop i))) := by
 obtain ⟨i0, hi, hz0, hz1, hz2⟩ := info_parts Tryz.infoNodeP
 obtain ⟨b, o, rfl, hin, hcell, hall⟩ := h.addr (by omega)
 have hle := h.le
 have hbw : b < w.heap.size := by
  obtain ⟨u, hu⟩ := Option.isSome_iff_exists.1 (hall 0 (by omega)).1
  exact block_of_cell hu
 have hvw := hA.lt
 have hpl : (xs.take (i * 1)).length = i * 1 := by rw [List.length_take, h.len]; omega
 have hdl : (xs.drop (i * 1)).length = (n - i) * 1 := by rw [List.length_drop, h.len]; omega
 obtain ⟨G, w1, hr, hG1, hG2, hraw, hbel⟩ := run_grow (P := Tryz.prog) w 170 3 152 i0 _ 1 8 .i64 .i64 Tryz.underlying170 Tryz.underlying3 hi hz0 hz1 hz2 rfl (by decide) b o i c _ (h.prefix_ i (by omega)) (n + 1 - i) (by omega) (by omega) (by omega) (by omega)
 have hkk : ((n + 1 - i : Nat) : Int) = (n : Int) + 1 - (i : Int) := by omega
 rw [hkk, show i + (n + 1 - i) = n + 1 by omega] at hr
 rw [show i + (n + 1 - i) = n + 1 by omega] at hG1
 obtain ⟨N, hN⟩ : ∃ N, w.heap.size = N := ⟨_, rfl⟩
 have hbN : b ≠ N := by omega
 have hvN : vb ≠ N := by omega
 have hcA : ∀ ty dc, (Builtin.copy_ #[170, 170] ty #[.slice (some ⟨N, i * 1, none⟩) (n + 1 - i) dc, .slice (some ⟨vb, 0, none⟩) 1 1]).run Tryz.prog w1 = .ok (goInt (Nat.min 1 (n + 1 - i))) (w1.setCells N (i * 1) vs) := fun ty dc =>
  run_copy_any w1 170 170 ty 152 1 N (i * 1) (n + 1 - i) dc ⟨vb, 0, none⟩ 1 1 vs Tryz.underlying170 (by kernel_rfl) (by rw [hv]; simp only [Nat.min_def]; split <;> omega)
   (fun j v hj => by rw [Addr.add_lit, Nat.zero_add]; exact (hA.later hbel).cell j v hj) (fun j hj => by rw [← hN]; exact hraw.all _ (by omega)) hA.one
 obtain ⟨w2, hw2⟩ : ∃ w2, w1.setCells N (i * 1) vs = w2 := ⟨_, rfl⟩
 have hraw2 : Raw w2 N (G * 1) (xs.take (i * 1) ++ vs) := by
  have := hraw.set vs (by rw [hpl]; omega)
  rw [hpl, hN, hw2] at this
  exact this
 have hold : ∀ j v, w.cell? ⟨b, j, none⟩ = some v → w2.drew.cell? ⟨b, j, none⟩ = some v := fun j v hj => by
  show w2.cell? _ = _
  rw [← hw2, World.cell?_setCells_out _ _ _ _ _ (fun h _ => absurd h hbN)]
  exact old_cell hj hbel
 have hraw3 : Raw w2.drew N (G * 1) (xs.take (i * 1) ++ vs) := hraw2.same rfl (fun _ => rfl) (fun _ => rfl)
 have hcB : ∀ ty dc sc, (Builtin.copy_ #[170, 170] ty #[.slice (some ⟨N, (i + 1) * 1, none⟩) (n - i) dc, .slice (some ⟨b, o + i * 1, none⟩) (n - i) sc]).run Tryz.prog w2.drew = .ok (goInt (Nat.min (n - i) (n - i))) (w2.drew.setCells N ((i + 1) * 1) (xs.drop (i * 1))) := fun ty dc sc =>
  run_copy_any w2.drew 170 170 ty 152 1 N ((i + 1) * 1) (n - i) dc ⟨b, o + i * 1, none⟩ (n - i) sc (xs.drop (i * 1)) Tryz.underlying170 (by kernel_rfl) (by rw [hdl]; simp only [Nat.min_def]; split <;> omega)
   (fun j v hj => by rw [List.getElem?_drop] at hj; rw [Addr.add_lit, Nat.add_assoc]; exact hold _ v (hcell _ v hj)) (fun j hj => hraw3.all _ (by omega)) (fun v hv => h.one v (List.mem_of_mem_drop hv))
 have hlen2 : (xs.take (i * 1) ++ vs).length = (i + 1) * 1 := by rw [List.length_append, hpl, hv]; omega
 have hraw4 := hraw3.set (xs.drop (i * 1)) (by rw [hlen2, hdl]; omega)
 rw [hlen2] at hraw4
 obtain ⟨w3, hw3⟩ : ∃ w3, w2.drew.setCells N ((i + 1) * 1) (xs.drop (i * 1)) = w3 := ⟨_, rfl⟩
 rw [hw3] at hcB hraw4
 have HE : Hid (Sl w3 1 (fun k _ => k = N) (some ⟨N, 0, none⟩) (n + 1) G (xs.take (i * 1) ++ (vs ++ xs.drop (i * 1))) ∧ Fr F w w3 ∧ Grew w F (fun k _ => k = N) ∧ Lies w3 (fun k _ => k = N)) := Lib.hid (by
  refine ⟨?_, ?_, fun k _ e => .inr (by omega), fun k _ e => by subst e; exact hraw4.lt⟩
  ·rw [← List.append_assoc]
   refine hraw4.sl (by rw [List.length_append, hlen2, hdl]; omega) hG1 hG2 rfl (fun u hu => ?_)
   rcases List.mem_append.1 hu with hu | hu
   ·rcases List.mem_append.1 hu with hu | hu
    ·exact h.one u (List.mem_of_mem_take hu)
    ·exact hA.one u hu
   ·exact h.one u (List.mem_of_mem_drop hu)
  ·have f1 : Fr F w w2 := (Fr.ofBelow hbel F).trans (by rw [← hw2]; exact Fr.setCells w1 N (i * 1) vs) (fun k _ e => .inr (by have := e.1; omega))
   exact f1.drew.trans (by rw [← hw3]; exact Fr.setCells w2.drew N ((i + 1) * 1) (xs.drop (i * 1))) (fun k _ e => .inr (by have := e.1; omega)))
 rw [hw2] at hcA
 rw [hN] at hr
 simp only [Nat.mul_one] at hcA hcB HE
 have hi0 : ((i : Int) == (n : Int)) = false := beq_eq_false_iff_ne.2 (by omega)
 have hb4 : ¬ (c = i) := by omega
 have hb8 : (c : Int) < (n : Int) + 1 := by omega
 have hG3 : ¬ (G = i) := by omega
 have hG4 : ¬ (G = i + 1) := by omega
 have hw1 : IntKind.i64.wrap ((i : Int) + 1) = (i : Int) + 1 := by rw [IntKind.wrap_i64]; omega
 have hb1 : (0 : Int) ≤ (i : Int) + 1 := by omega
 have htn : ((i : Int) + 1).toNat = i + 1 := by omega
 have hb3 : (i : Int) ≤ (n : Int) := by omega
 have hb6 : n + 1 - (i + 1) = n - i := by omega
 have hb7 : (i : Int) ≤ (n : Int) + 1 := by omega
 have hG63 : (G : Int) ≤ 9223372036854775807 := by unfold maxLen at hG2; omega
 clear hraw hraw2 hraw3 hraw4 hold hcell hall hin hpl hdl hw2 hw3 hbel hA hv hkk hlen2 hbw hvw hN hi hz0 hz1 hz2
 go_enter Tryz.func127, Tryz.ntmps127
 go_wp2_with (first
  | (at_builtin; refine wpList_appR rfl _ _ 170 3 rfl _ _ rfl rfl (hr _) ?_)
  | (refine wpList_copyR rfl _ _ 170 170 rfl _ _ rfl rfl (hcA _ _) ?_))
 go_region_law (refine step_copyR rfl _ _ 170 170 rfl _ _ (by simp [Act.eval, Act.put]) (by simp [Act.eval, Act.put]) (hcB _ _ _) ?_)
 go_wp2
 go_ret
 exact ⟨_, _, _, rfl, HE.out⟩
theorem insert_node (F : Foot) (a : Option Addr) (n c i : Nat) (xs : List Value) (vb : Nat) (vs : List Value) (hv : vs.length = 1) (hn : n ≤ 1000000) (hi : i ≤ n) (w : World) (h : Sl w 1 F a n c xs) (hl : Lies w F) (hA : Arg w vb vs) (hF : ∀ o, ¬ F vb o) :
  Calls Tryz.prog 127 #[.slice a n c, .int .i64 i, .slice (some ⟨vb, 0, none⟩) 1 1] w (GivesI_node w F n (xs.take i ++ (vs ++ xs.drop i))) := by
 rcases Nat.lt_or_ge i n with hlt | hge
 ·rcases Nat.lt_or_ge c (n + 1) with hr | hr
  ·exact insert_node_grow F a n c i xs vb vs hv hn hlt hr w h hA
  ·exact insert_node_room F a n c i xs vb vs hv hn hlt hr w h hl hA hF
 ·obtain rfl : i = n := by omega
  have e : xs.take i ++ (vs ++ xs.drop i) = xs ++ vs := by
   rw [List.take_of_length_le (by rw [h.len]; omega), List.drop_of_length_le (by rw [h.len]; omega), List.append_nil]
  rw [e]
  exact insert_node_end F a i c xs vb vs hv hn w h hl hA
theorem zone_node : ∀ v ∈ (Builtin.zeroCells (Value.pointer none).cells 1).toList, v.oneCell' = true := by
 have e : (Builtin.zeroCells (Value.pointer none).cells 1).toList = [.pointer none] := by kernel_rfl
 rw [e]
 intro v hv
 simp at hv
 subst hv
 rfl
def GivesD_node (w : World) (F : Foot) (a : Option Addr) (n c : Nat) (ys : List Value) (e : Ending) (w' : World) : Prop := e = .returned (.slice a n c) ∧ Sl w' 1 F a n c ys ∧ Fr F w w'
set_option maxRecDepth 100000 in
set_option maxHeartbeats 2000000 in
theorem delete_node (F : Foot) (a : Option Addr) (n c i : Nat) (xs : List Value) (hn : n ≤ 1000000) (hlt : i < n) (w : World) (h : Sl w 1 F a n c xs) :
  Calls Tryz.prog 171 #[.slice a n c, .int .i64 i, .int .i64 ((i : Int) + 1)] w (GivesD_node w F a (n - 1) c (xs.take i ++ xs.drop (i + 1))) := by
 obtain ⟨i0, hi, hz0, hz1, hz2⟩ := info_parts Tryz.infoNodeP
 obtain ⟨b, o, rfl, hin, hcell, hall⟩ := h.addr (by omega)
 have hle := h.le
 have hc63 : (c : Int) ≤ 9223372036854775807 := by have := h.cap; unfold maxLen at this; omega
 obtain ⟨sa, hsl, hsr⟩ := from_ex (P := Tryz.prog) 170 Tryz.underlying170 1 Tryz.sizeOf152 h.rd .i64 (i + 1) (by omega)
 have ecast : ((i + 1 : Nat) : Int) = (i : Int) + 1 := by omega
 rw [ecast] at hsl
 have hpre := (h.prefix_ i (by omega)).fr (Fr.refl noCells w).drew (fun _ _ _ h => h)
 have hrd := hsr w.drew (h.fr (Fr.refl noCells w).drew (fun _ _ _ h => h)).rd
 obtain ⟨w1, hr1, hs1, hf1⟩ := run_app_room (P := Tryz.prog) 170 170 152 i0 1 Tryz.underlying170 hi hz1 (by decide) b o i c _ hpre sa (n - (i + 1)) (c - (i + 1)) _ hrd (by omega)
 rw [show i + (n - (i + 1)) = n - 1 by omega] at hr1 hs1
 obtain ⟨w2, hr2, hs2, hf2⟩ := run_clear_one (P := Tryz.prog) 170 152 0 (.pointer none) 1 Tryz.underlying170 (fun W => by kernel_rfl) rfl (by decide) zone_node b o (n - 1) c (c - (n - 1)) _ hs1 (by omega)
 have HE : Hid (Sl w2 1 F (some ⟨b, o, none⟩) (n - 1) c (xs.take (i * 1) ++ xs.drop ((i + 1) * 1)) ∧ Fr F w w2) := Lib.hid ⟨hs2, ((Fr.refl F w).drew.trans hf1 (fun _ _ h => .inl h)).trans hf2 (fun _ _ h => .inl h)⟩
 simp only [Nat.mul_one] at hsl hr1 hr2 HE
 have hne : ((i : Int) == (i : Int) + 1) = false := beq_eq_false_iff_ne.2 (by omega)
 have hb1 : (i : Int) + 1 ≤ (n : Int) := by omega
 have hb2 : ¬ (c = n - 1) := by omega
 have hn0 : ((n - 1 : Nat) : Int) = (n : Int) - 1 := by omega
 have hn1 : n - (n - 1) = 1 := by omega
 have hb3 : (n : Int) - 1 ≤ (n : Int) := by omega
 have hb4 : (0 : Int) ≤ (n : Int) - 1 := by omega
 have hb5 : ((n : Int) - 1).toNat = n - 1 := by omega
 have hb6 : (i : Int) ≤ (n : Int) := by omega
 have hb7 : (n : Int) ≤ (c : Int) := by omega
 have hb8 : (i : Int) ≤ (c : Int) := by omega
 have hw1 : IntKind.i64.wrap ((i : Int) + 1) = (i : Int) + 1 := by rw [IntKind.wrap_i64]; omega
 clear ecast hcell hall hin hs1 hs2 hf1 hf2 hpre hrd hsr h hi hz0 hz1 hz2
 go_enter Tryz.func171, Tryz.ntmps171
 go_wp2
 go_region_law (refine step_appR rfl _ _ 170 170 rfl _ _ (by simp [Act.eval, Act.put]) (by simp [Act.eval, Act.put]) hr1 ?_)
 go_wp2_with (first
  | (refine wpList_clearR rfl _ 170 rfl _ rfl hr2 ?_))
 go_ret
 exact ⟨rfl, HE.out⟩

end Go.Proofs.YtecnijnmgdfdhaaGreat

namespace Go.Proofs.YtecnijnmgdfdhaaGreat
open Go.RowKit Tr

def pairsV (L : List Pr) : List Value := L.flatMap fun p => [.string ⟨p.1.toArray⟩, .string ⟨p.2.toArray⟩]
abbrev ptrV (b : Nat) : Value := .pointer (some ⟨b, 0, none⟩)
def kidsV (L : List G) : List Value := L.map fun k => ptrV k.b
theorem pairsV_cons (p : Pr) (L : List Pr) : pairsV (p :: L) = .string ⟨p.1.toArray⟩ :: .string ⟨p.2.toArray⟩ :: pairsV L := rfl
theorem pairsV_append (A B : List Pr) : pairsV (A ++ B) = pairsV A ++ pairsV B := by simp [pairsV]
theorem kidsV_append (A B : List G) : kidsV (A ++ B) = kidsV A ++ kidsV B := by simp [kidsV]
theorem pairsV_len (L : List Pr) : (pairsV L).length = L.length * 2 := by
 induction L with
 | nil => rfl
 | cons p L ih => rw [pairsV_cons, List.length_cons, List.length_cons, ih, List.length_cons]; omega
theorem kidsV_len (L : List G) : (kidsV L).length = L.length := by simp [kidsV]
theorem pairsV_take : ∀ (L : List Pr) (n : Nat), (pairsV L).take (n * 2) = pairsV (L.take n)
 | [], n => by simp [pairsV]
 | p :: L, 0 => by simp [pairsV]
 | p :: L, n + 1 => by
  rw [List.take_succ_cons, pairsV_cons, pairsV_cons, ← pairsV_take L n, show (n + 1) * 2 = n * 2 + 1 + 1 by omega, List.take_succ_cons, List.take_succ_cons]
theorem pairsV_drop : ∀ (L : List Pr) (n : Nat), (pairsV L).drop (n * 2) = pairsV (L.drop n)
 | [], n => by simp [pairsV]
 | p :: L, 0 => by simp [pairsV]
 | p :: L, n + 1 => by
  rw [List.drop_succ_cons, pairsV_cons, ← pairsV_drop L n, show (n + 1) * 2 = n * 2 + 1 + 1 by omega, List.drop_succ_cons, List.drop_succ_cons]
theorem kidsV_take (L : List G) (n : Nat) : (kidsV L).take n = kidsV (L.take n) := by simp [kidsV]
theorem kidsV_drop (L : List G) (n : Nat) : (kidsV L).drop n = kidsV (L.drop n) := by simp [kidsV]
theorem pairsV_get {L : List Pr} {i : Nat} {p : Pr} (h : L[i]? = some p) : (pairsV L)[i * 2]? = some (.string ⟨p.1.toArray⟩) ∧ (pairsV L)[i * 2 + 1]? = some (.string ⟨p.2.toArray⟩) := by
 induction L generalizing i with
 | nil => simp at h
 | cons q L ih =>
  cases i with
  | zero => simp at h; subst h; exact ⟨rfl, rfl⟩
  | succ i =>
   have := ih (i := i) (by simpa using h)
   rw [pairsV_cons, show (i + 1) * 2 = i * 2 + 1 + 1 by omega]
   exact this
theorem kidsV_get {L : List G} {i : Nat} {k : G} (h : L[i]? = some k) : (kidsV L)[i]? = some (ptrV k.b) := by simp [kidsV, h]
structure Top (w : World) (g : G) (pa : Option Addr) (pc : Nat) (ka : Option Addr) (kc : Nat) : Prop where
 c0 : w.cell? ⟨g.b, 0, none⟩ = some (.slice pa g.ps.length pc)
 c1 : w.cell? ⟨g.b, 1, none⟩ = some (.slice ka g.ks.length kc)
 f0 : w.frozen? ⟨g.b, 0, none⟩ = false
 f1 : w.frozen? ⟨g.b, 1, none⟩ = false
 sp : Sl w 2 g.Fp pa g.ps.length pc (pairsV g.ps)
 sk : Sl w 1 g.Fk ka g.ks.length kc (kidsV g.ks)
 ap : Apart g.Fp g.Fk
 bp : ∀ o, ¬ g.Fp g.b o
 bk : ∀ o, ¬ g.Fk g.b o
 lp : Lies w g.Fp
 lk : Lies w g.Fk
def topF (g : G) : Foot := fun k o => k = g.b ∨ g.Fp k o ∨ g.Fk k o
def foot : Nat → G → Foot
 | 0, g => topF g
 | h + 1, g => fun b o => topF g b o ∨ ∃ k ∈ g.ks, foot h k b o
def Nd (w : World) : Nat → G → Prop
 | 0, g => ∃ pa pc ka kc, Top w g pa pc ka kc
 | h + 1, g => (∃ pa pc ka kc, Top w g pa pc ka kc) ∧ (∀ k ∈ g.ks, Nd w h k ∧ Apart (topF g) (foot h k)) ∧ g.ks.Pairwise (fun k k' => Apart (foot h k) (foot h k'))
def NdK (w : World) (h : Nat) (F : Foot) (ks : List G) : Prop := match h with | 0 => True | h + 1 => (∀ k ∈ ks, Nd w h k ∧ Apart F (foot h k)) ∧ ks.Pairwise (fun k k' => Apart (foot h k) (foot h k'))
theorem nd_iff (w : World) (h : Nat) (g : G) : Nd w h g ↔ (∃ pa pc ka kc, Top w g pa pc ka kc) ∧ NdK w h (topF g) g.ks := by
 cases h with
 | zero => simp [Nd, NdK]
 | succ h => exact Iff.rfl
theorem Nd.top {w : World} {h : Nat} {g : G} (hn : Nd w h g) : ∃ pa pc ka kc, Top w g pa pc ka kc := ((nd_iff w h g).1 hn).1
theorem Apart.mono {F F' G' G'' : Foot} (h : Apart F' G'') (h1 : ∀ b o, F b o → F' b o) (h2 : ∀ b o, G' b o → G'' b o) : Apart F G' := fun b o hf hg => h b o (h1 b o hf) (h2 b o hg)
theorem Top.fr {S : Foot} {w w' : World} {g : G} {pa : Option Addr} {pc : Nat} {ka : Option Addr} {kc : Nat} (h : Top w g pa pc ka kc) (hf : Fr S w w') (hd : Apart (topF g) S) : Top w' g pa pc ka kc := by
 have hb := block_of_cell h.c0
 have hn : ∀ o, ¬ S g.b o := fun o => hd g.b o (.inl rfl)
 exact ⟨(hf.cell _ _ hb (hn 0)).trans h.c0, (hf.cell _ _ hb (hn 1)).trans h.c1, (hf.froz _ _ hb (hn 0)).trans h.f0, (hf.froz _ _ hb (hn 1)).trans h.f1,
  h.sp.fr hf (fun b o hp => hd b o (.inr (.inl hp))), h.sk.fr hf (fun b o hp => hd b o (.inr (.inr hp))), h.ap, h.bp, h.bk, h.lp.later hf, h.lk.later hf⟩
theorem topF_foot (h : Nat) (g : G) : ∀ b o, topF g b o → foot h g b o := by
 cases h with
 | zero => exact fun _ _ h => h
 | succ h => exact fun _ _ h => .inl h
theorem kid_foot {h : Nat} {g k : G} (hk : k ∈ g.ks) : ∀ b o, foot h k b o → foot (h + 1) g b o := fun _ _ h => .inr ⟨k, hk, h⟩
theorem Nd.fr {S : Foot} {w w' : World} (hf : Fr S w w') : ∀ {h : Nat} {g : G}, Nd w h g → Apart (foot h g) S → Nd w' h g
 | 0, _g, ⟨pa, pc, ka, kc, ht⟩, hd => ⟨pa, pc, ka, kc, ht.fr hf hd⟩
 | h + 1, g, ⟨⟨pa, pc, ka, kc, ht⟩, hk, hp⟩, hd =>
  ⟨⟨pa, pc, ka, kc, ht.fr hf (hd.mono (topF_foot (h + 1) g) (fun _ _ h => h))⟩, fun k hm => ⟨Nd.fr hf (hk k hm).1 (hd.mono (kid_foot hm) (fun _ _ h => h)), (hk k hm).2⟩, hp⟩
theorem NdK.fr {S : Foot} {w w' : World} (hf : Fr S w w') {h : Nat} {F : Foot} {ks : List G} (hn : NdK w h F ks) (hd : ∀ h', h = h' + 1 → ∀ k ∈ ks, Apart (foot h' k) S) : NdK w' h F ks := by
 cases h with
 | zero => trivial
 | succ h => exact ⟨fun k hk => ⟨(hn.1 k hk).1.fr hf (hd h rfl k hk), (hn.1 k hk).2⟩, hn.2⟩
theorem Top.lies {w : World} {g : G} {pa : Option Addr} {pc : Nat} {ka : Option Addr} {kc : Nat} (h : Top w g pa pc ka kc) : Lies w (topF g) := fun b o hb => by
 rcases hb with rfl | hb | hb
 ·exact block_of_cell h.c0
 ·exact h.lp b o hb
 ·exact h.lk b o hb
theorem Nd.lies {w : World} : ∀ {h : Nat} {g : G}, Nd w h g → Lies w (foot h g)
 | 0, _, ⟨_, _, _, _, ht⟩ => ht.lies
 | _ + 1, _, ⟨⟨_, _, _, _, ht⟩, hk, _⟩ => fun b o hb => by
  rcases hb with hb | ⟨k, hm, hb⟩
  ·exact ht.lies b o hb
  ·exact (hk k hm).1.lies b o hb
theorem Nd.later {w w' : World} {h : Nat} {g : G} (hn : Nd w h g) (hb : Below w.heap.size w w') : Nd w' h g := hn.fr (Fr.ofBelow hb noCells) (fun _ _ _ h => h)
theorem Top.later {w w' : World} {g : G} {pa : Option Addr} {pc : Nat} {ka : Option Addr} {kc : Nat} (h : Top w g pa pc ka kc) (hb : Below w.heap.size w w') : Top w' g pa pc ka kc := h.fr (Fr.ofBelow hb noCells) (fun _ _ _ h => h)
theorem Top.pair {w : World} {g : G} {pa : Option Addr} {pc : Nat} {ka : Option Addr} {kc : Nat} (h : Top w g pa pc ka kc) {i : Nat} {p : Pr} (hp : g.ps[i]? = some p) :
  ∃ b o, pa = some ⟨b, o, none⟩ ∧ w.cell? ⟨b, o + i * 2, none⟩ = some (.string ⟨p.1.toArray⟩) ∧ w.cell? ⟨b, o + i * 2 + 1, none⟩ = some (.string ⟨p.2.toArray⟩) ∧ w.frozen? ⟨b, o + i * 2, none⟩ = false ∧ w.frozen? ⟨b, o + i * 2 + 1, none⟩ = false ∧ g.Fp b (o + i * 2) ∧ g.Fp b (o + i * 2 + 1) := by
 have hi := (List.getElem?_eq_some_iff.1 hp).1
 obtain ⟨b, o, e, h1, h2, h3⟩ := h.sp.addr (by omega)
 have hle := h.sp.le
 obtain ⟨g1, g2⟩ := pairsV_get hp
 exact ⟨b, o, e, h2 _ _ g1, by have := h2 _ _ g2; rwa [← Nat.add_assoc] at this, (h3 _ (by omega)).2, by have := (h3 (i * 2 + 1) (by omega)).2; rwa [← Nat.add_assoc] at this, h1 _ (by omega), by have := h1 (i * 2 + 1) (by omega); rwa [← Nat.add_assoc] at this⟩
theorem Top.kid {w : World} {g : G} {pa : Option Addr} {pc : Nat} {ka : Option Addr} {kc : Nat} (h : Top w g pa pc ka kc) {i : Nat} {k : G} (hp : g.ks[i]? = some k) :
  ∃ b o, ka = some ⟨b, o, none⟩ ∧ w.cell? ⟨b, o + i, none⟩ = some (ptrV k.b) ∧ w.frozen? ⟨b, o + i, none⟩ = false := by
 have hi := (List.getElem?_eq_some_iff.1 hp).1
 obtain ⟨b, o, e, h1, h2, h3⟩ := h.sk.addr (by omega)
 have hle := h.sk.le
 exact ⟨b, o, e, h2 _ _ (kidsV_get hp), (h3 _ (by omega)).2⟩
end Go.Proofs.YtecnijnmgdfdhaaGreat

namespace Go.Proofs.YtecnijnmgdfdhaaGreat
open Go.RowKit Tr
open Ky (less)

theorem list_of (a : List UInt8) : (⟨a.toArray⟩ : ByteArray).toList = a := by rw [Lib.toList_data]
theorem str_lss (t : TypeId) (a b : List UInt8) : binOp .lss t (.string ⟨a.toArray⟩) (.string ⟨b.toArray⟩) = pure (.bool (Op.bytesLess a b)) := by
 simp [binOp, Op.stringOp]
theorem str_geq (t : TypeId) (a b : List UInt8) : binOp .geq t (.string ⟨a.toArray⟩) (.string ⟨b.toArray⟩) = pure (.bool (!Op.bytesLess a b)) := by
 simp [binOp, Op.stringOp]
theorem str_eql (t : TypeId) (a b : List UInt8) : binOp .eql t (.string ⟨a.toArray⟩) (.string ⟨b.toArray⟩) = pure (.bool (a == b)) := by
 simp [binOp, Op.stringOp]
theorem below_drewN (w : World) (n : Nat) : Below w.heap.size w (w.drewN n) := ⟨rfl, rfl, rfl, Nat.le_refl _, fun _ _ => rfl⟩
structure Asks (w : World) (g : G) (key : Str) (A B : Nat) : Prop where
 a : w.cell? ⟨A, 0, none⟩ = some (ptrV g.b)
 b : w.cell? ⟨B, 0, none⟩ = some (.string ⟨key.toArray⟩)
 t : ∃ pa pc ka kc, Top w g pa pc ka kc
theorem Asks.later {w w' : World} {g : G} {key : Str} {A B : Nat} (h : Asks w g key A B) (hb : Below w.heap.size w w') : Asks w' g key A B := by
 obtain ⟨pa, pc, ka, kc, ht⟩ := h.t
 exact ⟨old_cell h.a hb, old_cell h.b hb, pa, pc, ka, kc, ht.later hb⟩
set_option maxHeartbeats 1000000 in
theorem ask_any (g : G) (key : Str) (A B i : Nat) (p : Pr) (hp : g.ps[i]? = some p) (_hn : g.ps.length ≤ 1000000) (w : World) (h : Asks w g key A B) :
  Calls Tryz.prog 155 #[.int .i64 i, .pointer (some ⟨A, 0, none⟩), .pointer (some ⟨B, 0, none⟩)] w fun e w' => e = .returned (.bool (!less p.1 key)) ∧ Below w.heap.size w w' := by
 obtain ⟨pa, pc, ka, kc, ht⟩ := h.t
 obtain ⟨b, o, rfl, c1, _⟩ := ht.pair hp
 have hA := h.a
 have hB := h.b
 have hi := (List.getElem?_eq_some_iff.1 hp).1
 have c0 := ht.c0
 have hi0 : (0 : Int) ≤ (i : Int) := by omega
 have hi1 : (i : Int) < (g.ps.length : Int) := by omega
 have hge := str_geq 9 p.1 key
 clear h ht hp
 go_enter Tryz.func155, Tryz.ntmps155
 go_wp2
 go_quiet (fail)
 go_wp2
 go_ret
 exact ⟨rfl, below_drewN _ _⟩
theorem pl_after {key : Str} {L : List Pr} (hs : Sorted L) {i : Nat} {p : Pr} (hi : pl key L ≤ i) (hp : L[i]? = some p) : less p.1 key = false := by
 have hl := (List.getElem?_eq_some_iff.1 hp).1
 have h0 : pl key L < L.length := by omega
 have hq := List.getElem?_eq_getElem h0
 have h1 := pl_at hq
 rcases Nat.lt_or_ge (pl key L) i with h2 | h2
 ·have h3 := List.pairwise_iff_getElem.1 hs (pl key L) i h0 hl h2
  have e : p = L[i] := (Option.some.inj ((List.getElem?_eq_getElem hl).symm.trans hp)).symm
  rw [← e] at h3
  cases h4 : less p.1 key with
  | false => rfl
  | true => rw [less_trans h3 h4] at h1; cases h1
 ·obtain rfl : pl key L = i := by omega
  exact pl_at hp
set_option maxHeartbeats 1000000 in
theorem search_any (g : G) (key : Str) (A B : Nat) (hs : Sorted g.ps) (hn : g.ps.length ≤ 1000000) (w : World) (h : Asks w g key A B) :
  Calls Tryz.prog 154 #[.int .i64 g.ps.length, .func (.func 155) #[] #[.pointer (some ⟨A, 0, none⟩), .pointer (some ⟨B, 0, none⟩)]] w fun e w' => e = .returned (.int .i64 (pl key g.ps)) ∧ Below w.heap.size w w' := by
 have H0 := Lib.hid h
 have HS := Lib.hid hs
 have hple := pl_le key g.ps
 obtain ⟨N, hN⟩ : ∃ N, g.ps.length = N := ⟨_, rfl⟩
 obtain ⟨P, hP⟩ : ∃ P, pl key g.ps = P := ⟨_, rfl⟩
 rw [hN, hP] at hple
 rw [hN] at hn ⊢
 rw [hP]
 have HN := Lib.hid hN
 have HP := Lib.hid hP
 clear h hs hN hP
 go_enter Tryz.func154, Tryz.ntmps154
 go_wp2
 go_loopw [5, 6, 7] (fun i j _ wr => ∃ (a b : Nat), i = .int .i64 a ∧ j = .int .i64 b ∧ a ≤ P ∧ P ≤ b ∧ b ≤ N ∧ Hid (Below w.heap.size w wr)) (fun i j _ _ => (intOf j).toNat - (intOf i).toNat)
 case atStart => exact ⟨0, N, rfl, rfl, Nat.zero_le _, hple, Nat.le_refl _, Lib.hid (Below.refl _ _)⟩
 case round =>
  obtain ⟨a, b, rfl, rfl, ha, hb, hbN, HB⟩ := hrel
  by_cases hlt : a < b
  ·obtain ⟨m, hm⟩ : ∃ m, (a + b) / 2 = m := ⟨_, rfl⟩
   have hm1 : a ≤ m := by omega
   have hm2 : m < b := by omega
   have hme : ((a : Int) + (b : Int)) / 2 = (m : Int) := by omega
   have HM := Lib.hid hme
   obtain ⟨p, hp⟩ : ∃ p, g.ps[m]? = some p := ⟨_, List.getElem?_eq_getElem (by rw [HN.out]; omega)⟩
   have HA := Lib.hid (ask_any g key A B m p hp (by rw [HN.out]; exact hn) wr (H0.out.later HB.out))
   by_cases hmP : m < P
   ·have hl : less p.1 key = true := pl_lt (by rw [HP.out]; exact hmP) hp
    rw [hl] at HA
    clear hm hme hp hl
    go_wp2_with (rw [HM.out]; refine HA.out.mono ?_; rintro e w1 ⟨rfl, hb⟩; have H1 := Lib.hid (HB.out.trans (hb.mono HB.out.size)); clear hb)
    go_roundw
    case rel => exact ⟨m + 1, b, by go_num, rfl, by omega, hb, hbN, H1⟩
    case measure => simp [intOf]; omega
   ·have hl : less p.1 key = false := pl_after HS.out (by rw [HP.out]; omega) hp
    rw [hl] at HA
    clear hm hme hp hl
    go_wp2_with (rw [HM.out]; refine HA.out.mono ?_; rintro e w1 ⟨rfl, hb⟩; have H1 := Lib.hid (HB.out.trans (hb.mono HB.out.size)); clear hb)
    go_roundw
    case rel => exact ⟨a, m, rfl, rfl, ha, by omega, by omega, H1⟩
    case measure => simp [intOf]; omega
  ·obtain rfl : a = b := by omega
   obtain rfl : a = P := by omega
   go_wp2
   go_ret
   exact ⟨rfl, HB.out⟩
def hasAt (key : Str) (L : List Pr) : Bool := match L[pl key L]? with | some p => p.1 == key | none => false
theorem asks_new (w : World) (g : G) (key : Str) (t1 t2 : TypeId) (h : ∃ pa pc ka kc, Top w g pa pc ka kc) : Asks ((w.alloc (.cells #[ptrV g.b] t1)).alloc (.cells #[.string ⟨key.toArray⟩] t2)) g key w.heap.size (w.heap.size + 1) := by
 obtain ⟨pa, pc, ka, kc, ht⟩ := h
 have hb : Below w.heap.size w ((w.alloc (.cells #[ptrV g.b] t1)).alloc (.cells #[.string ⟨key.toArray⟩] t2)) := ((Below.refl _ _).alloc (Nat.le_refl _) _).alloc (by simp) _
 exact ⟨by simp, by simp, pa, pc, ka, kc, ht.later hb⟩
set_option maxHeartbeats 1000000 in
theorem find_any (g : G) (key : Str) (hs : Sorted g.ps) (hn : g.ps.length ≤ 1000000) (w : World) (h : ∃ pa pc ka kc, Top w g pa pc ka kc) :
  Calls Tryz.prog 124 #[ptrV g.b, .string ⟨key.toArray⟩] w fun e w' => e = .returned (.tuple #[.int .i64 (pl key g.ps), .bool (hasAt key g.ps)]) ∧ Below w.heap.size w w' := by
 have HA := Lib.hid (asks_new w g key 152 9 h)
 have HL : Hid (Below w.heap.size w ((w.alloc (.cells #[ptrV g.b] 152)).alloc (.cells #[.string ⟨key.toArray⟩] 9))) := Lib.hid (((Below.refl _ _).alloc (Nat.le_refl _) _).alloc (by simp) _)
 obtain ⟨pa, pc, ka, kc, ht⟩ := h
 have c0 := ht.c0
 have hgb := block_of_cell c0
 have HS := Lib.hid (fun W hW => search_any g key w.heap.size (w.heap.size + 1) hs hn W hW)
 have HT := Lib.hid ht
 have hple := pl_le key g.ps
 cases hq : g.ps[pl key g.ps]? with
 | none =>
  have hh : hasAt key g.ps = false := by unfold hasAt; rw [hq]
  have hlt : g.ps.length ≤ pl key g.ps := by
   rcases Nat.lt_or_ge (pl key g.ps) g.ps.length with h1 | h1
   ·rw [List.getElem?_eq_getElem h1] at hq; cases hq
   ·exact h1
  have hd : decide (pl key g.ps < g.ps.length) = false := by simp; omega
  have hd2 : decide ((pl key g.ps : Int) < (g.ps.length : Int)) = false := by simp; omega
  rw [hh]
  clear hq hh ht hs
  go_enter Tryz.func124, Tryz.ntmps124
  go_wp2_with (go_at_call 154; refine (HS.out _ HA.out).mono ?_; rintro e w1 ⟨rfl, hb⟩; have H1 := Lib.hid (And.intro (HL.out.trans (hb.mono HL.out.size)) (HA.out.later hb)); clear hb)
  have x0 := H1.out.2.a
  have x1 := H1.out.2.b
  have x2 := (HT.out.later H1.out.1).c0
  go_quiet (fail)
  go_wp2
  go_ret2
  exact ⟨rfl, H1.out.1.trans ((below_drewN _ _).mono H1.out.1.size)⟩
 | some p =>
  have hh : hasAt key g.ps = (p.1 == key) := by unfold hasAt; rw [hq]
  have hlt := (List.getElem?_eq_some_iff.1 hq).1
  have hd : decide (pl key g.ps < g.ps.length) = true := by simp; omega
  have hd2 : decide ((pl key g.ps : Int) < (g.ps.length : Int)) = true := by simp; omega
  have hi0 : (0 : Int) ≤ (pl key g.ps : Int) := by omega
  have hi1 : (pl key g.ps : Int) < (g.ps.length : Int) := by omega
  obtain ⟨b, o, rfl, _⟩ := ht.pair hq
  have HP := Lib.hid hq
  have heq := str_eql 9 p.1 key
  rw [hh]
  clear hq hh ht hs
  go_enter Tryz.func124, Tryz.ntmps124
  go_wp2_with (go_at_call 154; refine (HS.out _ HA.out).mono ?_; rintro e w1 ⟨rfl, hb⟩; have H1 := Lib.hid (And.intro (HL.out.trans (hb.mono HL.out.size)) (HA.out.later hb)); clear hb)
  have x0 := H1.out.2.a
  have x1 := H1.out.2.b
  have x2 := (HT.out.later H1.out.1).c0
  have x3 : w1.cell? ⟨b, o + pl key g.ps * 2, none⟩ = some (.string ⟨p.1.toArray⟩) := by
   obtain ⟨b', o', e, c1, _⟩ := (HT.out.later H1.out.1).pair HP.out
   cases e
   exact c1
  go_quiet (fail)
  go_wp2
  go_ret2
  exact ⟨rfl, H1.out.1.trans ((below_drewN _ _).mono H1.out.1.size)⟩
end Go.Proofs.YtecnijnmgdfdhaaGreat

namespace Go.Proofs.YtecnijnmgdfdhaaGreat
open Go.RowKit Tr

def subsOf (h : Nat) (ks : List G) : List (Nat × G) := match h with | 0 => [] | h + 1 => ks.map fun k => (h, k)
def uF (u : Nat × G) : Foot := foot u.1 u.2
abbrev topOk (w : World) (g : G) : Prop := ∃ pa pc ka kc, Top w g pa pc ka kc
structure St (w0 : World) (F : Foot) (w : World) (T : List G) (U : List (Nat × G)) : Prop where
 top : ∀ t ∈ T, topOk w t
 sub : ∀ u ∈ U, Nd w u.1 u.2
 sep : (T.map topF ++ U.map uF).Pairwise Apart
 fr : Fr F w0 w
 ins : ∀ f ∈ T.map topF ++ U.map uF, ∀ b o, f b o → F b o ∨ w0.heap.size ≤ b
theorem foot_subs (h : Nat) (g : G) (b o : Nat) : foot h g b o ↔ topF g b o ∨ ∃ u ∈ subsOf h g.ks, uF u b o := by
 cases h with
 | zero => simp [foot, subsOf]
 | succ h =>
  constructor
  ·rintro (h1 | ⟨k, hk, h1⟩)
   ·exact .inl h1
   ·exact .inr ⟨(h, k), List.mem_map.2 ⟨k, hk, rfl⟩, h1⟩
  ·rintro (h1 | ⟨u, hu, h1⟩)
   ·exact .inl h1
   ·obtain ⟨k, hk, rfl⟩ := List.mem_map.1 hu
    exact .inr ⟨k, hk, h1⟩
theorem subsOf_append (h : Nat) (A B : List G) : subsOf h (A ++ B) = subsOf h A ++ subsOf h B := by cases h <;> simp [subsOf]
theorem Apart.symm' : ∀ {F G : Foot}, Apart F G → Apart G F := fun h => h.symm
theorem St.perm {w0 : World} {F : Foot} {w : World} {T T' : List G} {U U' : List (Nat × G)} (h : St w0 F w T U) (ht : T.Perm T') (hu : U.Perm U') : St w0 F w T' U' := by
 have hp : (T.map topF ++ U.map uF).Perm (T'.map topF ++ U'.map uF) := (ht.map topF).append (hu.map uF)
 exact ⟨fun t h1 => h.top t (ht.mem_iff.2 h1), fun u h1 => h.sub u (hu.mem_iff.2 h1), (hp.pairwise_iff Apart.symm').1 h.sep, h.fr, fun f hf => h.ins f (hp.mem_iff.2 hf)⟩
theorem nd_st (w : World) (h : Nat) (g : G) : Nd w h g ↔ topOk w g ∧ (∀ u ∈ subsOf h g.ks, Nd w u.1 u.2) ∧ (topF g :: (subsOf h g.ks).map uF).Pairwise Apart := by
 cases h with
 | zero => simp [Nd, subsOf]
 | succ h =>
  simp only [Nd, subsOf, List.mem_map, forall_exists_index, and_imp, List.map_map, List.pairwise_cons, List.pairwise_map, Function.comp, uF]
  constructor
  ·rintro ⟨h1, h2, h3⟩
   exact ⟨h1, (fun u k hk e => by subst e; exact (h2 k hk).1), (fun f k hk e => by subst e; exact (h2 k hk).2), h3⟩
  ·rintro ⟨h1, h2, h3, h4⟩
   exact ⟨h1, fun k hk => ⟨h2 (h, k) k hk rfl, h3 _ k hk rfl⟩, h4⟩
theorem St.begin_ {w : World} {h : Nat} {g : G} (hn : Nd w h g) : St w (foot h g) w [g] (subsOf h g.ks) := by
 obtain ⟨h1, h2, h3⟩ := (nd_st w h g).1 hn
 refine ⟨fun t ht => ?_, h2, h3, Fr.refl _ _, fun f hf b o hb => .inl ?_⟩
 ·rw [List.mem_singleton] at ht; subst ht; exact h1
 ·rw [foot_subs]
  simp only [List.map_cons, List.map_nil, List.cons_append, List.nil_append, List.mem_cons, List.mem_map] at hf
  rcases hf with rfl | ⟨u, hu, rfl⟩
  ·exact .inl hb
  ·exact .inr ⟨u, hu, hb⟩
theorem St.lies {w0 : World} {F : Foot} {w : World} {T : List G} {U : List (Nat × G)} (h : St w0 F w T U) : ∀ f ∈ T.map topF ++ U.map uF, Lies w f := by
 intro f hf
 rcases List.mem_append.1 hf with hf | hf
 ·obtain ⟨t, ht, rfl⟩ := List.mem_map.1 hf
  obtain ⟨_, _, _, _, h1⟩ := h.top t ht
  exact h1.lies
 ·obtain ⟨u, hu, rfl⟩ := List.mem_map.1 hf
  exact (h.sub u hu).lies
theorem St.close_ {w0 : World} {F : Foot} {w : World} {h : Nat} {g : G} (hs : St w0 F w [g] (subsOf h g.ks)) : Nd w h g ∧ Fr F w0 w ∧ Grew w0 F (foot h g) := by
 refine ⟨(nd_st w h g).2 ⟨hs.top g (by simp), hs.sub, hs.sep⟩, hs.fr, fun b o hb => ?_⟩
 rw [foot_subs] at hb
 rcases hb with hb | ⟨u, hu, hb⟩
 ·exact hs.ins (topF g) (by simp) b o hb
 ·exact hs.ins (uF u) (by simp; exact .inr ⟨_, _, hu, rfl⟩) b o hb
theorem St.open_ {w0 : World} {F : Foot} {w : World} {T : List G} {U : List (Nat × G)} {h : Nat} {k : G} (hs : St w0 F w T ((h, k) :: U)) : St w0 F w (k :: T) (subsOf h k.ks ++ U) := by
 obtain ⟨h1, h2, h3⟩ := (nd_st w h k).1 (hs.sub (h, k) (by simp))
 have hmem : ∀ f ∈ topF k :: (subsOf h k.ks).map uF, ∀ b o, f b o → uF (h, k) b o := fun f hf b o hb => by
  show foot h k b o
  rw [foot_subs]
  rcases List.mem_cons.1 hf with rfl | hf
  ·exact .inl hb
  ·obtain ⟨u, hu, rfl⟩ := List.mem_map.1 hf
   exact .inr ⟨u, hu, hb⟩
 have hp : (T.map topF ++ ((h, k) :: U).map uF).Perm (uF (h, k) :: (T.map topF ++ U.map uF)) := by
  rw [List.map_cons]; exact List.perm_middle
 have hs1 := (hp.pairwise_iff Apart.symm').1 hs.sep
 obtain ⟨a1, a2⟩ := List.pairwise_cons.1 hs1
 have hq : ((k :: T).map topF ++ (subsOf h k.ks ++ U).map uF).Perm ((topF k :: (subsOf h k.ks).map uF) ++ (T.map topF ++ U.map uF)) := by
  simp only [List.map_cons, List.cons_append, List.map_append]
  refine List.Perm.cons _ ?_
  rw [← List.append_assoc, ← List.append_assoc]
  exact List.perm_append_comm.append_right _
 refine ⟨fun t ht => ?_, fun u hu => ?_, (hq.pairwise_iff Apart.symm').2 (List.pairwise_append.2 ⟨h3, a2, fun f hf f' hf' => (a1 f' hf').mono (hmem f hf) (fun _ _ h => h)⟩), hs.fr, fun f hf b o hb => ?_⟩
 ·rcases List.mem_cons.1 ht with rfl | ht
  ·exact h1
  ·exact hs.top t ht
 ·rcases List.mem_append.1 hu with hu | hu
  ·exact h2 u hu
  ·exact hs.sub u (by simp [hu])
 ·have hf' := hq.mem_iff.1 hf
  rcases List.mem_append.1 hf' with hf' | hf'
  ·exact hs.ins (uF (h, k)) (by simp) b o (hmem f hf' b o hb)
  ·exact hs.ins f (hp.mem_iff.2 (List.mem_cons_of_mem _ hf')) b o hb
theorem St.shut_ {w0 : World} {F : Foot} {w : World} {T : List G} {U : List (Nat × G)} {h : Nat} {k : G} (hs : St w0 F w (k :: T) (subsOf h k.ks ++ U)) : St w0 F w T ((h, k) :: U) := by
 have hq : ((k :: T).map topF ++ (subsOf h k.ks ++ U).map uF).Perm ((topF k :: (subsOf h k.ks).map uF) ++ (T.map topF ++ U.map uF)) := by
  simp only [List.map_cons, List.cons_append, List.map_append]
  refine List.Perm.cons _ ?_
  rw [← List.append_assoc, ← List.append_assoc]
  exact List.perm_append_comm.append_right _
 obtain ⟨h3, a2, a3⟩ := List.pairwise_append.1 ((hq.pairwise_iff Apart.symm').1 hs.sep)
 have hn : Nd w h k := (nd_st w h k).2 ⟨hs.top k (by simp), fun u hu => hs.sub u (by simp [hu]), h3⟩
 have hp : (T.map topF ++ ((h, k) :: U).map uF).Perm (uF (h, k) :: (T.map topF ++ U.map uF)) := by
  rw [List.map_cons]; exact List.perm_middle
 refine ⟨fun t ht => hs.top t (by simp [ht]), fun u hu => ?_, (hp.pairwise_iff Apart.symm').2 (List.pairwise_cons.2 ⟨fun f hf b o hb hb' => ?_, a2⟩), hs.fr, fun f hf b o hb => ?_⟩
 ·rcases List.mem_cons.1 hu with rfl | hu
  ·exact hn
  ·exact hs.sub u (by simp [hu])
 ·have hb1 : foot h k b o := hb
  rw [foot_subs] at hb1
  rcases hb1 with hb1 | ⟨u, hu, hb1⟩
  ·exact a3 (topF k) (by simp) f hf b o hb1 hb'
  ·exact a3 (uF u) (List.mem_cons_of_mem _ (List.mem_map.2 ⟨u, hu, rfl⟩)) f hf b o hb1 hb'
 ·rcases List.mem_cons.1 (hp.mem_iff.1 hf) with rfl | hf
  ·have hb1 : foot h k b o := hb
   rw [foot_subs] at hb1
   rcases hb1 with hb1 | ⟨u, hu, hb1⟩
   ·exact hs.ins (topF k) (by simp) b o hb1
   ·exact hs.ins (uF u) (hq.mem_iff.2 (List.mem_append_left _ (List.mem_cons_of_mem _ (List.mem_map.2 ⟨u, hu, rfl⟩)))) b o hb1
  ·exact hs.ins f (hq.mem_iff.2 (List.mem_append_right _ hf)) b o hb
theorem St.step {w0 : World} {F : Foot} {w w' : World} {K K' T : List G} {U : List (Nat × G)} {S : Foot} (hs : St w0 F w (K ++ T) U) (hf : Fr S w w') (hS : ∀ b o, S b o → (∃ k ∈ K, topF k b o) ∨ w.heap.size ≤ b)
  (ht : ∀ t ∈ K', topOk w' t) (hp : (K'.map topF).Pairwise Apart) (hi : ∀ t ∈ K', ∀ b o, topF t b o → (∃ k ∈ K, topF k b o) ∨ w.heap.size ≤ b) : St w0 F w' (K' ++ T) U := by
 have hsep := hs.sep
 rw [List.map_append, List.append_assoc] at hsep
 obtain ⟨s1, s2, s3⟩ := List.pairwise_append.1 hsep
 have hlie := hs.lies
 have old : ∀ f ∈ T.map topF ++ U.map uF, ∀ b o, f b o → ¬ ((∃ k ∈ K, topF k b o) ∨ w.heap.size ≤ b) := fun f hf1 b o hb h1 => by
  rcases h1 with ⟨k, hk, h1⟩ | h1
  ·exact s3 (topF k) (List.mem_map.2 ⟨k, hk, rfl⟩) f hf1 b o h1 hb
  ·have := hlie f (by rw [List.map_append, List.append_assoc]; exact List.mem_append_right _ hf1) b o hb
   omega
 have hsz := hs.fr.size
 have hinK : ∀ b o, ((∃ k ∈ K, topF k b o) ∨ w.heap.size ≤ b) → F b o ∨ w0.heap.size ≤ b := fun b o h1 => by
  rcases h1 with ⟨k, hk, h1⟩ | h1
  ·exact hs.ins (topF k) (List.mem_append_left _ (List.mem_map.2 ⟨k, by simp [hk], rfl⟩)) b o h1
  ·exact .inr (by omega)
 refine ⟨fun t htm => ?_, fun u hu => ?_, ?_, hs.fr.trans hf (fun b o h1 => hinK b o (hS b o h1)), fun f hf1 b o hb => ?_⟩
 ·rcases List.mem_append.1 htm with htm | htm
  ·exact ht t htm
  ·obtain ⟨pa, pc, ka, kc, h1⟩ := hs.top t (by simp [htm])
   exact ⟨pa, pc, ka, kc, h1.fr hf (fun b o hb hb' => old (topF t) (List.mem_append_left _ (List.mem_map.2 ⟨t, htm, rfl⟩)) b o hb (hS b o hb'))⟩
 ·exact (hs.sub u hu).fr hf (fun b o hb hb' => old (uF u) (List.mem_append_right _ (List.mem_map.2 ⟨u, hu, rfl⟩)) b o hb (hS b o hb'))
 ·rw [List.map_append, List.append_assoc]
  refine List.pairwise_append.2 ⟨hp, s2, fun f hf1 f' hf2 b o hb hb' => ?_⟩
  obtain ⟨t, htm, rfl⟩ := List.mem_map.1 hf1
  exact old f' hf2 b o hb' (hi t htm b o hb)
 ·rw [List.map_append, List.append_assoc] at hf1
  rcases List.mem_append.1 hf1 with hf1 | hf1
  ·obtain ⟨t, htm, rfl⟩ := List.mem_map.1 hf1
   exact hinK b o (hi t htm b o hb)
  ·exact hs.ins f (by rw [List.map_append, List.append_assoc]; exact List.mem_append_right _ hf1) b o hb
theorem St.later {w0 : World} {F : Foot} {w w' : World} {T : List G} {U : List (Nat × G)} (hs : St w0 F w T U) (hb : Below w.heap.size w w') : St w0 F w' T U :=
 St.step (K := []) (K' := []) (S := noCells) hs (Fr.ofBelow hb _) (fun _ _ h => h.elim) (fun _ h => by cases h) List.Pairwise.nil (fun _ h => by cases h)
theorem St.one {w0 : World} {F : Foot} {w w' : World} {t t' : G} {T : List G} {U : List (Nat × G)} {S : Foot} (hs : St w0 F w (t :: T) U) (hf : Fr S w w') (hS : ∀ b o, S b o → topF t b o ∨ w.heap.size ≤ b)
  (ht : topOk w' t') (hi : Grew w (topF t) (topF t')) : St w0 F w' (t' :: T) U :=
 St.step (K := [t]) (K' := [t']) hs hf (fun b o h => (hS b o h).imp (fun h => ⟨t, by simp, h⟩) id) (fun x hx => by rw [List.mem_singleton] at hx; subst hx; exact ht) (List.pairwise_singleton _ _)
  (fun x hx b o hb => by rw [List.mem_singleton] at hx; subst hx; exact (hi b o hb).imp (fun h => ⟨t, by simp, h⟩) id)
theorem fr_cell (w : World) (b o : Nat) (v : Value) : Fr (fun k _ => k = b) w (w.setCell ⟨b, o, none⟩ v) := (Fr.refl (fun k _ => k = b) w).setCell (.inl (show b = b from rfl)) v
theorem Top.setP {w w1 : World} {g : G} {pa : Option Addr} {pc : Nat} {ka : Option Addr} {kc : Nat} (ht : Top w g pa pc ka kc) {S1 : Foot} (hf : Fr S1 w w1) (hS : ∀ b o, S1 b o → g.Fp b o ∨ w.heap.size ≤ b)
  {F1 : Foot} {a1 : Option Addr} {n1 c1 : Nat} {ps1 : List Pr} (hn : ps1.length = n1) (hs : Sl w1 2 F1 a1 n1 c1 (pairsV ps1)) (hg : ∀ b o, F1 b o → g.Fp b o ∨ w.heap.size ≤ b) (hl : Lies w1 F1) :
  Top (w1.setCell ⟨g.b, 0, none⟩ (.slice a1 n1 c1)) (.mk g.b F1 g.Fk ps1 g.ks) a1 c1 ka kc ∧ Fr (topF g) w (w1.setCell ⟨g.b, 0, none⟩ (.slice a1 n1 c1)) ∧ Grew w (topF g) (topF (.mk g.b F1 g.Fk ps1 g.ks)) := by
 subst hn
 have hb : g.b < w.heap.size := block_of_cell ht.c0
 have hn1 : ∀ o, ¬ S1 g.b o := fun o h => by
  rcases hS g.b o h with h | h
  ·exact ht.bp o h
  ·omega
 have hn2 : ∀ o, ¬ F1 g.b o := fun o h => by
  rcases hg g.b o h with h | h
  ·exact ht.bp o h
  ·omega
 have hkk : Apart g.Fk S1 := fun b o h1 h2 => by
  rcases hS b o h2 with h | h
  ·exact ht.ap b o h h1
  ·have := ht.lk b o h1; omega
 have d0 : w1.cell? ⟨g.b, 0, none⟩ = _ := (hf.cell g.b 0 hb (hn1 0)).trans ht.c0
 have d1 : w1.cell? ⟨g.b, 1, none⟩ = _ := (hf.cell g.b 1 hb (hn1 1)).trans ht.c1
 have f2 : Fr (fun k o => k = g.b) w1 (w1.setCell ⟨g.b, 0, none⟩ (.slice a1 ps1.length c1)) := fr_cell _ _ _ _
 refine ⟨⟨World.cell?_setCell_same' _ _ _ (by rw [d0]; rfl), ?_, Eq.trans (World.frozen?_setCell _ _ _ _) ((hf.froz g.b 0 hb (hn1 0)).trans ht.f0), Eq.trans (World.frozen?_setCell _ _ _ _) ((hf.froz g.b 1 hb (hn1 1)).trans ht.f1),
  hs.fr f2 (fun b o h1 h2 => by subst h2; exact hn2 o h1), (ht.sk.fr hf hkk).fr f2 (fun b o h1 h2 => by subst h2; exact ht.bk o h1), fun b o h1 h2 => ?_, hn2, ht.bk, hl.later f2, (ht.lk.later hf).later f2⟩, ?_, ?_⟩
 ·show (w1.setCell _ _).cell? ⟨g.b, 1, none⟩ = _
  rw [World.cell?_setCell_other _ _ _ _ (by simp)]; exact d1
 ·rcases hg b o h1 with h | h
  ·exact ht.ap b o h h2
  ·have := ht.lk b o h2; omega
 ·exact (Fr.trans (S := topF g) (S' := S1) (Fr.refl _ _) hf (fun b o h => (hS b o h).imp (fun h => .inr (.inl h)) id)).trans f2 (fun b o h => .inl (.inl h))
 ·rintro b o (h | h | h)
  ·exact .inl (.inl h)
  ·exact (hg b o h).imp (fun h => .inr (.inl h)) id
  ·exact .inl (.inr (.inr h))
theorem Top.setK {w w1 : World} {g : G} {pa : Option Addr} {pc : Nat} {ka : Option Addr} {kc : Nat} (ht : Top w g pa pc ka kc) {S1 : Foot} (hf : Fr S1 w w1) (hS : ∀ b o, S1 b o → g.Fk b o ∨ w.heap.size ≤ b)
  {F1 : Foot} {a1 : Option Addr} {n1 c1 : Nat} {ks1 : List G} (hn : ks1.length = n1) (hs : Sl w1 1 F1 a1 n1 c1 (kidsV ks1)) (hg : ∀ b o, F1 b o → g.Fk b o ∨ w.heap.size ≤ b) (hl : Lies w1 F1) :
  Top (w1.setCell ⟨g.b, 1, none⟩ (.slice a1 n1 c1)) (.mk g.b g.Fp F1 g.ps ks1) pa pc a1 c1 ∧ Fr (topF g) w (w1.setCell ⟨g.b, 1, none⟩ (.slice a1 n1 c1)) ∧ Grew w (topF g) (topF (.mk g.b g.Fp F1 g.ps ks1)) := by
 subst hn
 have hb : g.b < w.heap.size := block_of_cell ht.c0
 have hn1 : ∀ o, ¬ S1 g.b o := fun o h => by
  rcases hS g.b o h with h | h
  ·exact ht.bk o h
  ·omega
 have hn2 : ∀ o, ¬ F1 g.b o := fun o h => by
  rcases hg g.b o h with h | h
  ·exact ht.bk o h
  ·omega
 have hkk : Apart g.Fp S1 := fun b o h1 h2 => by
  rcases hS b o h2 with h | h
  ·exact ht.ap b o h1 h
  ·have := ht.lp b o h1; omega
 have d0 : w1.cell? ⟨g.b, 0, none⟩ = _ := (hf.cell g.b 0 hb (hn1 0)).trans ht.c0
 have d1 : w1.cell? ⟨g.b, 1, none⟩ = _ := (hf.cell g.b 1 hb (hn1 1)).trans ht.c1
 have f2 : Fr (fun k o => k = g.b) w1 (w1.setCell ⟨g.b, 1, none⟩ (.slice a1 ks1.length c1)) := fr_cell _ _ _ _
 refine ⟨⟨?_, World.cell?_setCell_same' _ _ _ (by rw [d1]; rfl), Eq.trans (World.frozen?_setCell _ _ _ _) ((hf.froz g.b 0 hb (hn1 0)).trans ht.f0), Eq.trans (World.frozen?_setCell _ _ _ _) ((hf.froz g.b 1 hb (hn1 1)).trans ht.f1),
  (ht.sp.fr hf hkk).fr f2 (fun b o h1 h2 => by subst h2; exact ht.bp o h1), hs.fr f2 (fun b o h1 h2 => by subst h2; exact hn2 o h1), fun b o h1 h2 => ?_, ht.bp, hn2, (ht.lp.later hf).later f2, hl.later f2⟩, ?_, ?_⟩
 ·show (w1.setCell _ _).cell? ⟨g.b, 0, none⟩ = _
  rw [World.cell?_setCell_other _ _ _ _ (by simp)]; exact d0
 ·rcases hg b o h2 with h | h
  ·exact ht.ap b o h1 h
  ·have := ht.lp b o h1; omega
 ·exact (Fr.trans (S := topF g) (S' := S1) (Fr.refl _ _) hf (fun b o h => (hS b o h).imp (fun h => .inr (.inr h)) id)).trans f2 (fun b o h => .inl (.inl h))
 ·rintro b o (h | h | h)
  ·exact .inl (.inl h)
  ·exact .inl (.inr (.inl h))
  ·exact (hg b o h).imp (fun h => .inr (.inr h)) id
end Go.Proofs.YtecnijnmgdfdhaaGreat

namespace Go.Proofs.YtecnijnmgdfdhaaGreat
open Go
section
variable {P : Program} {ops : Array Oper} {Q : Exit → Act → World → Prop} {md : Region.Mode} {S : World → Prop} {n : Nat}
def wpTill (P : Program) (md : Region.Mode) (ops : Array Oper) (Q : Exit → Act → World → Prop) (S : World → Prop) (n : Nat) : Nat → Array Bool → Act → World → Prop
 | 0, listed, a, w => Region.ready md ops listed = [] ∧ Q .normal a w
 | fuel + 1, listed, a, w => (Region.ready md ops listed = [] → Q .normal a w) ∧ ∀ i ∈ Region.ready md ops listed, wpOp P ops Q i (fun a' w' => (i ≠ n → S w') ∧ wpTill P md ops Q S n fuel (listed.setIfInBounds i true) a' w') a w
theorem wpAny_of_till : ∀ (fuel : Nat) (listed : Array Bool) (a : Act) (w : World), wpTill P md ops Q S n fuel listed a w → wpAny P md ops Q fuel listed a w
 | 0, _, _, _, h => h
 | fuel + 1, _, _, _, h => ⟨h.1, fun i hi => wpOp_mono (fun a' w' h' => wpAny_of_till fuel _ a' w' h'.2) (h.2 i hi)⟩
def waitsB (md : Region.Mode) (ops : Array Oper) (n i : Nat) : Bool := match ops[n]? with | some o => o.after.any (fun e => Region.binds md e && e.on == i) | none => false
theorem not_yet {i : Nat} {listed : Array Bool} (hw : waitsB md ops n i = true) (hi : i ∈ Region.ready md ops listed) {j : Nat} (hj : j ∈ Region.ready md ops listed) : j ≠ n := by
 rintro rfl
 obtain ⟨_, oj, hoj, hall⟩ := mem_ready.1 hj
 simp only [waitsB, hoj] at hw
 obtain ⟨e, he, hb⟩ := Array.any_eq_true'.1 hw
 simp only [Bool.and_eq_true, beq_iff_eq] at hb
 have h1 := hall e he hb.1
 have h0 := (mem_ready.1 hi).1
 rw [hb.2] at h1
 rcases Nat.lt_or_ge i listed.size with h' | h'
 ·simp [h'] at h0 h1; rw [h0] at h1; cases h1
 ·simp [Array.getElem?_eq_none h'] at h1
theorem wpTill_first {i : Nat} {oi : Oper} {v : Value} (hi : ops[i]? = some oi) (hsel : ∀ (j : Nat) (o : Oper) cs b, ops[j]? = some o → o.op ≠ .select cs b) (hw : waitsB md ops n i = true)
  (hQ : ∀ c a w, Q (.panic c) (a.put oi.dst v) w → Q (.panic c) a w) :
  ∀ (fuel : Nat) (listed : Array Bool) (a : Act) (w : World),
   (∀ j oj, ops[j]? = some oj → j ≠ i → listed.getD j true = false → (∀ e ∈ oj.after, Region.binds md e = true → e.on ≠ i) → oi.apart ops oj = true) →
   i ∈ Region.ready md ops listed → YieldsIf P ops S oi v a → S w →
   wpTill P md ops Q S n fuel (listed.setIfInBounds i true) (a.put oi.dst v) w → wpTill P md ops Q S n (fuel + 1) listed a w := by
 intro fuel
 induction fuel with
 | zero =>
  intro listed a w _ hr hy hS H
  refine ⟨fun h => (by rw [h] at hr; cases hr), fun j hj => ?_⟩
  by_cases hji : j = i
  ·subst hji; exact hy.wpOp hi hS ⟨fun _ => hS, H⟩
  ·have := ready_mono hj hji
   rw [H.1] at this
   cases this
 | succ fuel ih =>
  intro listed a w hfree hr hy hS H
  refine ⟨fun h => (by rw [h] at hr; cases hr), fun j hj => ?_⟩
  by_cases hji : j = i
  ·subst hji; exact hy.wpOp hi hS ⟨fun _ => hS, H⟩
  ·have hjn := not_yet hw hr hj
   have h1 := H.2 j (ready_mono hj hji)
   obtain ⟨hjun, oj, hoj, hall⟩ := mem_ready.1 hj
   have hnot : ∀ e ∈ oj.after, Region.binds md e = true → e.on ≠ i := fun e he hb heq => by
    have h1 := hall e he hb
    have h0 := (mem_ready.1 hr).1
    rw [heq] at h1
    rcases Nat.lt_or_ge i listed.size with h' | h'
    ·simp [h'] at h0 h1; rw [h0] at h1; cases h1
    ·simp [Array.getElem?_eq_none h'] at h1
   have h2 := wpOp_putIf hoj (hfree j oj hoj hji hjun hnot) (fun cs b => hsel i oi cs b hi) (fun cs b => hsel j oj cs b hoj) hQ hy h1
   have hfree' : ∀ k ok, ops[k]? = some ok → k ≠ i → (listed.setIfInBounds j true).getD k true = false →
     (∀ e ∈ ok.after, Region.binds md e = true → e.on ≠ i) → oi.apart ops ok = true := fun k ok hk hki hun hno => by
    refine hfree k ok hk hki ?_ hno
    by_cases hjk : j = k
    ·subst hjk; exact hjun
    ·rw [getD_set_ne true hjk] at hun; exact hun
   refine wpOp_mono (fun a' w' h3 => ⟨h3.2.1, ih (listed.setIfInBounds j true) a' w' hfree' (ready_mono hr (Ne.symm hji)) h3.1 (h3.2.1 hjn) ?_⟩) h2
   rw [Array.setIfInBounds_comm _ _ hji]
   exact h3.2.2
theorem wpTill_take {i : Nat} {oi : Oper} {v : Value} {fuel : Nat} {listed : Array Bool} {a : Act} {w : World} (hi : ops[i]? = some oi)
  (hs : Region.noSelect ops = true) (hw : waitsB md ops n i = true) (hf : Region.free md ops listed i = true) (hr : (Region.ready md ops listed).contains i = true)
  (hQ : ∀ c a w, Q (.panic c) (a.put oi.dst v) w → Q (.panic c) a w) (hg : oi.guard = none) (hy : ∀ w, S w → (execOp a.eval oi).run P w = .ok (.value v) w) (hS : S w)
  (h : wpTill P md ops Q S n fuel (listed.setIfInBounds i true) (a.put oi.dst v) w) : wpTill P md ops Q S n (fuel + 1) listed a w :=
 wpTill_first hi (Region.noSelect_spec hs) hw hQ fuel listed a w (Region.free_spec hi hf) (by simpa using hr) (.inl ⟨by simp [Region.wanted, hg], hy⟩) hS h
theorem wpTill_one {i : Nat} {oi : Oper} {fuel : Nat} {listed : Array Bool} {a : Act} {w : World} (hr : Region.ready md ops listed = [i]) (hi : ops[i]? = some oi) (hg : oi.guard = none)
  (h : ∀ K : Act → World → Prop, Shut (∀ a' w', (i ≠ n → S w') → wpTill P md ops Q S n fuel (listed.setIfInBounds i true) a' w' → K a' w') → Oper.wp P oi a w K Q) : wpTill P md ops Q S n (fuel + 1) listed a w := by
 refine ⟨fun h0 => (by rw [hr] at h0; cases h0), fun j hj => ?_⟩
 rw [hr, List.mem_singleton] at hj
 subst hj
 refine wpOp_step hi (fun K' hK => ?_)
 rw [if_pos (by simp [Region.wanted, hg])]
 exact h K' (fun a' w' h1 h2 => hK a' w' ⟨h1, h2⟩)
theorem wpTill_done {listed : Array Bool} {a : Act} {w : World} (hr : Region.ready md ops listed = []) (h : Q .normal a w) : ∀ fuel, wpTill P md ops Q S n fuel listed a w
 | 0 => ⟨hr, h⟩
 | _ + 1 => ⟨fun _ => h, by rw [hr]; simp⟩
theorem wp_region_till {id : Nat} {a : Act} {w : World} (n : Nat) (S : World → Prop) (hm : P.follows .mixedOrders = true) (hS : S w.drew)
  (h : S w.drew → wpTill P .any ops Q S n ops.size (Array.replicate ops.size false) a w.drew) : (Code.region id ops true).wp P Q a w := wp_region_any hm (wpAny_of_till _ _ _ _ (h hS))
end
theorem zzU {P : Program} {ops : Array Oper} {Q : Exit → Act → World → Prop} {md : Region.Mode} {S : World → Prop} {n : Nat} {i : Nat} {oi : Oper} {v : Value} {fuel : Nat} {listed : Array Bool} {a : Act} {w : World} (hi : ops[i]? = some oi)
  (hk : (Region.noSelect ops && (waitsB md ops n i && (Region.free md ops listed i && (Region.ready md ops listed).contains i))) = true)
  (hQ : ∀ c a w, Q (.panic c) (a.put oi.dst v) w → Q (.panic c) a w) (hg : oi.guard = none) (hy : ∀ w, S w → (execOp a.eval oi).run P w = .ok (.value v) w) (hS : S w)
  (h : wpTill P md ops Q S n fuel (listed.setIfInBounds i true) (a.put oi.dst v) w) : wpTill P md ops Q S n (fuel + 1) listed a w := by
 simp only [Bool.and_eq_true] at hk
 exact wpTill_take hi hk.1 hk.2.1 hk.2.2.1 hk.2.2.2 hQ hg hy hS h
end Go.Proofs.YtecnijnmgdfdhaaGreat
