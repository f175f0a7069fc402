/- Joined: Bf1, Bf2, Bf3. -/
import Derived.Test.YtecnijnmgdfdhaaGreatYTblaw9
import Derived.Test.YtecnijnmgdfdhaaGreatYTabC
import Derived.Maps.OwnSet
import Derived.Maps.RangeWalk
namespace Go.Proofs.YtecnijnmgdfdhaaGreat
namespace Bf
open Tr Tb
open Ky (less)
def rowOf : Str → Option Str
 | [] => none
 | _ :: s => some s
def wrS : Option R4 → Str
 | none => []
 | some r => 1 :: encT r
def stepW (L : List Pr) (p : Pr) : List Pr := match p.2 with
 | [] => del p.1 L
 | _ :: s => ins (p.1, s) L
def overT (W L : List Pr) : List Pr := W.foldl stepW L
def OkW (W : List Pr) : Prop := ∀ p ∈ W, Ks.okKey p.1 = true ∧ ∃ r : Option R4, (∀ q, r = some q → In4 q) ∧ p.2 = wrS r
section
variable {W L A M : List Pr}
theorem stepW_sorted (h : Sorted L) (p : Pr) : Sorted (stepW L p) := by
 unfold stepW
 split
 ·exact h.del _
 ·exact h.ins _
theorem over_sorted : ∀ (W : List Pr) {L : List Pr}, Sorted L → Sorted (overT W L)
 | [], _, h => h
 | p :: W, _, h => over_sorted W (stepW_sorted h p)
theorem stepW_get (h : Sorted L) (p : Pr) (k : Str) : get k (stepW L p) = if k = p.1 then rowOf p.2 else get k L := by
 obtain ⟨q, v⟩ := p
 cases v with
 | nil =>
  show get k (del q L) = _
  by_cases e : k = q
  ·subst e; rw [if_pos rfl]; exact get_del_self h k
  ·rw [if_neg e]; exact get_del_other h e
 | cons b s =>
  show get k (ins (q, s) L) = _
  by_cases e : k = q
  ·subst e; rw [if_pos rfl]; exact get_ins _ _ _
  ·rw [if_neg e]; exact get_ins_other h e
theorem get_cons_other {p : Pr} {k : Str} (hW : Sorted (p :: W)) (e : k ≠ p.1) : get k (p :: W) = get k W := by
 have hp := (List.pairwise_cons.1 hW).2
 cases hg : get k W with
 | none =>
  refine (get_no hW).2 (fun q hq e2 => ?_)
  rcases List.mem_cons.1 hq with rfl | hq
  ·exact e e2.symm
  ·exact (get_no hp).1 hg q hq e2
 | some v => exact (mem_get hW).2 (List.mem_cons_of_mem _ ((mem_get hp).1 hg))
theorem head_out {p : Pr} (hW : Sorted (p :: W)) {q : Pr} (hq : q ∈ W) : q.1 ≠ p.1 := fun e => by
 have := (List.pairwise_cons.1 hW).1 q hq
 rw [e, Ky.less_self] at this
 cases this
theorem over_get : ∀ {W L : List Pr}, Sorted W → Sorted L → ∀ k, get k (overT W L) = (match get k W with | none => get k L | some v => rowOf v)
 | [], _, _, _, _ => rfl
 | p :: W, L, hW, hL, k => by
  have hp := (List.pairwise_cons.1 hW).2
  show get k (overT W (stepW L p)) = _
  rw [over_get hp (stepW_sorted hL p) k, stepW_get hL]
  by_cases e : k = p.1
  ·have h1 : get k W = none := (get_no hp).2 (fun q hq e2 => head_out hW hq (e2.trans e))
   have h2 : get k (p :: W) = some p.2 := (mem_get hW).2 (by rw [e]; exact List.mem_cons_self ..)
   rw [h1, h2]
   simp [e]
  ·rw [get_cons_other hW e]
   cases get k W <;> simp [e]
theorem sorted_get_ext (hA : Sorted A) (hM : Sorted M) (h : ∀ k, get k A = get k M) : A = M :=
 sorted_ext hA hM (fun p => by
  have h1 := mem_get hA (k := p.1) (s := p.2)
  have h2 := mem_get hM (k := p.1) (s := p.2)
  rw [h p.1] at h1
  exact h1.symm.trans h2)
theorem over_ins (hW : Sorted W) (hL : Sorted L) (x : Pr) : overT (ins x W) L = stepW (overT W L) x := by
 refine sorted_get_ext (over_sorted _ hL) (stepW_sorted (over_sorted _ hL) _) (fun k => ?_)
 rw [over_get (hW.ins _) hL, stepW_get (over_sorted _ hL), over_get hW hL]
 obtain ⟨q, v⟩ := x
 by_cases e : k = q
 ·subst e
  rw [get_ins, if_pos rfl]
 ·rw [get_ins_other hW e, if_neg e]
theorem stepW_ok (h : OkT L) {p : Pr} (hk : Ks.okKey p.1 = true) {r : Option R4} (hr : ∀ q, r = some q → In4 q) (e : p.2 = wrS r) : OkT (stepW L p) := by
 obtain ⟨k, v⟩ := p
 simp only at e hk
 subst e
 cases r with
 | none => exact h.del k
 | some r => exact h.ins hk (hr r rfl)
theorem over_ok : ∀ {W L : List Pr}, OkW W → OkT L → OkT (overT W L)
 | [], _, _, h => h
 | p :: W, L, hW, h => by
  obtain ⟨hk, r, hr, e⟩ := hW p (List.mem_cons_self ..)
  show OkT (overT W (stepW L p))
  exact over_ok (fun q hq => hW q (List.mem_cons_of_mem _ hq)) (stepW_ok h hk hr e)
theorem OkW.nil : OkW [] := fun _ h => by cases h
theorem OkW.ins (h : OkW W) {k : Str} (hk : Ks.okKey k = true) {r : Option R4} (hr : ∀ q, r = some q → In4 q) : OkW (ins (k, wrS r) W) := fun p hp => by
 rcases ins_mem hp with rfl | hp
 ·exact ⟨hk, r, hr, rfl⟩
 ·exact h p hp
theorem OkW.got (h : OkW W) (hs : Sorted W) {k v : Str} (hg : get k W = some v) : ∃ r : Option R4, (∀ q, r = some q → In4 q) ∧ v = wrS r := (h (k, v) ((mem_get hs).1 hg)).2
/-! ### How many -/
def delta (L : List Pr) (p : Pr) : Int := match p.2, get p.1 L with
 | [], some _ => -1
 | [], none => 0
 | _ :: _, none => 1
 | _ :: _, some _ => 0
def sumD (f : Pr → Int) : List Pr → Int
 | [] => 0
 | p :: W => f p + sumD f W
theorem sumD_congr {f g : Pr → Int} : ∀ {W : List Pr}, (∀ p ∈ W, f p = g p) → sumD f W = sumD g W
 | [], _ => rfl
 | p :: W, h => by
  show f p + sumD f W = g p + sumD g W
  rw [h p (List.mem_cons_self ..), sumD_congr (fun q hq => h q (List.mem_cons_of_mem _ hq))]
theorem sumD_bound {f : Pr → Int} (h : ∀ p, -1 ≤ f p ∧ f p ≤ 1) : ∀ (W : List Pr), -(W.length : Int) ≤ sumD f W ∧ sumD f W ≤ W.length
 | [] => ⟨by simp [sumD], by simp [sumD]⟩
 | p :: W => by
  have h1 := h p
  have h2 := sumD_bound h W
  simp only [sumD, List.length_cons]
  omega
theorem delta_bound (L : List Pr) (p : Pr) : -1 ≤ delta L p ∧ delta L p ≤ 1 := by
 unfold delta
 split <;> omega
theorem stepW_len (p : Pr) : ((stepW L p).length : Int) = L.length + delta L p := by
 obtain ⟨k, v⟩ := p
 cases v with
 | nil =>
  have h := del_len k L
  show ((del k L).length : Int) = _
  unfold delta
  cases hg : get k L with
  | none => rw [hg] at h; simp at h ⊢; omega
  | some s => rw [hg] at h; simp at h ⊢; omega
 | cons b s =>
  have h := ins_len (k, s) L
  show ((ins (k, s) L).length : Int) = _
  unfold delta
  rw [h]
  cases hg : get k L with
  | none => simp
  | some s => simp
theorem over_len : ∀ {W L : List Pr}, Sorted W → Sorted L → ((overT W L).length : Int) = L.length + sumD (delta L) W
 | [], _, _, _ => by simp [overT, sumD]
 | p :: W, L, hW, hL => by
  have hp := (List.pairwise_cons.1 hW).2
  show ((overT W (stepW L p)).length : Int) = _
  rw [over_len hp (stepW_sorted hL p), stepW_len, sumD_congr (f := delta (stepW L p)) (g := delta L) (fun q hq => by
   unfold delta
   rw [stepW_get hL, if_neg (head_out hW hq)])]
  simp only [sumD]
  omega
def doneD (f : Pr → Int) (left : Str → Bool) (W : List Pr) : Int := sumD (fun p => if left p.1 then 0 else f p) W
theorem done_all (f : Pr → Int) {left : Str → Bool} {W : List Pr} (h : ∀ p ∈ W, left p.1 = true) : doneD f left W = 0 := by
 unfold doneD
 rw [sumD_congr (g := fun _ => 0) (fun p hp => by rw [h p hp]; rfl)]
 clear h
 induction W with
 | nil => rfl
 | cons p W ih => simp only [sumD, ih]; rfl
theorem done_none (f : Pr → Int) {left : Str → Bool} {W : List Pr} (h : ∀ p ∈ W, left p.1 = false) : doneD f left W = sumD f W :=
 sumD_congr (fun p hp => by rw [h p hp]; rfl)
theorem done_strike (f : Pr → Int) {left : Str → Bool} : ∀ {W : List Pr}, Sorted W → ∀ {p : Pr}, p ∈ W → left p.1 = true → doneD f (fun k => left k && !(k == p.1)) W = doneD f left W + f p
 | [], _, _, hp, _ => by cases hp
 | q :: W, hW, p, hp, hl => by
  have hW2 := (List.pairwise_cons.1 hW).2
  rcases List.mem_cons.1 hp with rfl | hp
  ·show (if (left p.1 && !(p.1 == p.1)) then 0 else f p) + sumD _ W = ((if left p.1 then 0 else f p) + sumD _ W) + f p
   rw [sumD_congr (W := W) (f := fun q => if (left q.1 && !(q.1 == p.1)) then 0 else f q) (g := fun q => if left q.1 then 0 else f q) (fun q hq => by
    have := head_out hW hq
    simp [this]), hl]
   simp
   omega
  ·have hne : q.1 ≠ p.1 := fun e => head_out hW hp e.symm
   have ih := done_strike f (left := left) hW2 hp hl
   unfold doneD at ih ⊢
   simp only [sumD]
   rw [ih]
   simp [hne]
   omega
theorem done_bound {f : Pr → Int} (h : ∀ p, -1 ≤ f p ∧ f p ≤ 1) (left : Str → Bool) (W : List Pr) : -(W.length : Int) ≤ doneD f left W ∧ doneD f left W ≤ W.length :=
 sumD_bound (fun p => by have := h p; split <;> omega) W
theorem over_bound (hW : Sorted W) (hL : Sorted L) : (overT W L).length ≤ L.length + W.length := by
 have h1 := over_len hW hL
 have h2 := sumD_bound (delta_bound L) W
 omega
end
end Bf
end Go.Proofs.YtecnijnmgdfdhaaGreat

namespace Go.Proofs.YtecnijnmgdfdhaaGreat
namespace Bf
open Go.RowKit Tr Tb
open Ky (less)
open Go.Maps (Keyed IsMap Tidy)
open Go.WideMaps (keyOf_string_mk)
theorem kLaw : Keyed Tryz.prog 9 := Go.Maps.string_keyed Tryz.underlying9
def elP : Value → Option (DataW Unit × List MemPlace)
 | .pointer none => some (.nil, [])
 | .pointer (some ⟨b, 0, none⟩) => some (.lit (.int .i64 b), [])
 | _ => none
def ptrO (c : Option Nat) : Value := .pointer (c.map fun b => ⟨b, 0, none⟩)
def ptrD : Option Nat → DataW Unit
 | none => .nil
 | some b => .lit (.int .i64 b)
theorem elP_mk (c : Option Nat) : elP (ptrO c) = some (ptrD c, []) := by cases c <;> rfl
theorem elP_inv {v : Value} {y : DataW Unit × List MemPlace} (h : elP v = some y) : ∃ c, v = ptrO c ∧ y = (ptrD c, []) := by
 unfold elP at h
 split at h
 ·cases h; exact ⟨none, rfl, rfl⟩
 ·cases h; exact ⟨some _, rfl, rfl⟩
 ·cases h
theorem ptrD_inj {c d : Option Nat} (h : ptrD c = ptrD d) : c = d := by
 cases c <;> cases d
 ·rfl
 ·cases h
 ·cases h
 ·cases h; rfl
theorem key_of {k : Str} (h : k.length ≤ 1000000) : keyOf Tryz.prog 9 (.string ⟨k.toArray⟩) = some (.string k) := by
 have := keyOf_string_mk (P := Tryz.prog) (k := 9) Tryz.underlying9 (s := ⟨k.toArray⟩) (by rw [text_size]; unfold maxLen; omega)
 simpa using this
theorem key_inv {v : Value} {kl : Lit} (h : keyOf Tryz.prog 9 v = some kl) : ∃ k : Str, v = .string ⟨k.toArray⟩ ∧ kl = .string k := by
 rw [keyOf_string Tryz.underlying9] at h
 cases v with
 | string s =>
  simp [mapKey, Tryz.underlying9] at h
  refine ⟨s.data.toList, by simp, h.2.symm⟩
 | _ => simp [mapKey, Tryz.underlying9] at h
def elD (pt : Str → Nat) (k : Str) : Str → DataW Unit
 | [] => .nil
 | _ :: _ => .lit (.int .i64 (pt k))
def elC (pt : Str → Nat) (k : Str) : Str → Option Nat
 | [] => none
 | _ :: _ => some (pt k)
theorem elD_ptr (pt : Str → Nat) (k v : Str) : elD pt k v = ptrD (elC pt k v) := by cases v <;> rfl
structure MapIs (D : DataW Unit) (pt : Str → Nat) (W : List Pr) : Prop where
 has : ∀ k, Go.Maps.has D (.string k) = (get k W).isSome
 got : ∀ k v, get k W = some v → ∀ z, D.atKey (.string k) z = elD pt k v
 size : Go.Maps.size D = W.length
 tidy : Tidy D
theorem MapIs.nil (pt : Str → Nat) : MapIs (.map []) pt [] := ⟨fun _ => rfl, (fun _ _ h => by cases h), rfl, Go.Maps.tidy_empty⟩
theorem isKey (k : Str) : Go.WideAt.IsKeyLit (.string k) := trivial
theorem lit_ne {j k : Str} (h : j ≠ k) : Lit.string j ≠ Lit.string k := fun e => h (by cases e; rfl)
theorem MapIs.put {D : DataW Unit} {pt : Str → Nat} {W : List Pr} (h : MapIs D pt W) (hs : Sorted W) (k v : Str) (b : Nat) :
  MapIs (D.put (.string k) (elD (fun _ => b) k v)) (fun j => if j = k then b else pt j) (ins (k, v) W) := by
 refine ⟨fun j => ?_, fun j u hg z => ?_, ?_, h.tidy.put (isKey k) _⟩
 ·by_cases e : j = k
  ·subst e; rw [Go.Maps.has_put_same h.tidy.isMap (isKey _), get_ins]; rfl
  ·rw [Go.Maps.has_put_other (lit_ne e), get_ins_other hs e, h.has]
 ·by_cases e : j = k
  ·subst e
   rw [get_ins] at hg
   cases hg
   rw [Go.Maps.atKey_put_same h.tidy.isMap (isKey _)]
   cases v <;> simp [elD]
  ·rw [get_ins_other hs e] at hg
   rw [Go.Maps.atKey_put_other (lit_ne e), h.got j u hg z]
   cases u <;> simp [elD, e]
 ·rw [Go.Maps.size_put h.tidy, h.has, h.size, ins_len]
  show (if (get k W).isSome = true then W.length else W.length + 1) = W.length + (if get k W = none then 1 else 0)
  cases get k W <;> simp
def RowsAt (w : World) (pt : Str → Nat) (W : List Pr) : Prop := ∀ k b s, get k W = some (b :: s) → ∀ i, i < 4 → w.cell? ⟨pt k, i, none⟩ = some (.int .i64 (col (decT s) i))
def bufF (bb mb : Nat) (pt : Str → Nat) (W : List Pr) : Foot := fun k _ => k = bb ∨ k = mb ∨ ∃ j b s, get j W = some (b :: s) ∧ k = pt j
theorem map_no_cell {w : World} {mb n : Nat} {D : DataW Unit} (h : w.ownsMap Tryz.prog 9 elP mb n D) (o : Nat) : w.cell? ⟨mb, o, none⟩ = none := by
 obtain ⟨es, clock, hb, _⟩ := h
 simp [World.cell?, hb]
theorem map_fr {w V : World} {S : Foot} {mb n : Nat} {D : DataW Unit} (h : w.ownsMap Tryz.prog 9 elP mb n D) (hf : Fr S w V) (hn : ∀ o, ¬ S mb o) : V.ownsMap Tryz.prog 9 elP mb n D := by
 have hl := h.lt
 obtain ⟨es, clock, hb, r⟩ := h
 exact ⟨es, clock, (hf.block mb hl hn).trans hb, r⟩
theorem map_tight {w : World} {mb n : Nat} {D : DataW Unit} (h : w.ownsMap Tryz.prog 9 elP mb n D) : w.ownsMap Tryz.prog 9 elP mb (Go.Maps.size D) D := by
 obtain ⟨es, clock, hb, F, hs, rfl⟩ := h
 refine ⟨es, clock, hb, F, ?_, rfl⟩
 simp [Go.Maps.size, length_sorted]
theorem grown_of_below {w V : World} (h : Below w.heap.size w V) : w.grownBy V none := ⟨h.os, h.tape, h.output, h.size, fun i hi _ => h.block i hi⟩
def BufA (bb tb mb : Nat) (pt : Str → Nat) (D : DataW Unit) (W : List Pr) : Rs where
 R w F := (w.cell? ⟨bb, 0, none⟩ = some (ptrV tb) ∧ w.cell? ⟨bb, 1, none⟩ = some (.map (some mb))) ∧ w.ownsMap Tryz.prog 9 elP mb W.length D ∧ RowsAt w pt W ∧ ∀ k o, F k o ↔ bufF bb mb pt W k o
 fr := fun {S F w w'} ⟨⟨h1, h2⟩, h3, h4, h5⟩ hf ha =>
  ⟨⟨cell_fr hf h1 (ha _ _ ((h5 _ _).2 (.inl rfl))), cell_fr hf h2 (ha _ _ ((h5 _ _).2 (.inl rfl)))⟩, map_fr h3 hf (fun o => ha _ _ ((h5 _ _).2 (.inr (.inl rfl)))),
   fun k b s hg i hi => cell_fr hf (h4 k b s hg i hi) (ha _ _ ((h5 _ _).2 (.inr (.inr ⟨k, b, s, hg, rfl⟩)))), h5⟩
 lies := fun {F w} ⟨⟨h1, _⟩, h3, h4, h5⟩ b o h => by
  rcases (h5 b o).1 h with rfl | rfl | ⟨k, b', s, hg, rfl⟩
  ·exact block_of_cell h1
  ·exact h3.lt
  ·exact block_of_cell (h4 k b' s hg 0 (by omega))
def BufR (bb tb : Nat) (W : List Pr) : Rs where
 R w F := ∃ mb pt D, (MapIs D pt W ∧ Sorted W ∧ OkW W) ∧ (BufA bb tb mb pt D W).R w F
 fr := fun ⟨mb, pt, D, h1, h2⟩ hf ha => ⟨mb, pt, D, h1, (BufA bb tb mb pt D W).fr h2 hf ha⟩
 lies := fun ⟨mb, pt, D, _, h2⟩ => (BufA bb tb mb pt D W).lies h2
section
variable {B : Nat} {w0 w V : World} {X Y : List Rs} {bb tb mb rb : Nat} {pt : Str → Nat} {D : DataW Unit} {W : List Pr}
theorem own_bufOpen (h : Own B w0 (BufR bb tb W :: X) w) : ∃ mb pt D, (MapIs D pt W ∧ Sorted W ∧ OkW W) ∧ Own B w0 (BufA bb tb mb pt D W :: X) w := by
 obtain ⟨hB, hb, F, ⟨F1, F2, e, ha, ⟨mb, pt, D, h1, h2⟩, h3⟩, h4⟩ := h
 exact ⟨mb, pt, D, h1, hB, hb, F, ⟨F1, F2, e, ha, h2, h3⟩, h4⟩
theorem own_bufClose (h1 : MapIs D pt W ∧ Sorted W ∧ OkW W) (h : Own B w0 (BufA bb tb mb pt D W :: X) w) : Own B w0 (BufR bb tb W :: X) w :=
 h.imp (fun _ hR => ⟨mb, pt, D, h1, hR⟩)
theorem own_bufSorted (h : Own B w0 (BufR bb tb W :: X) w) : Sorted W := by
 obtain ⟨_, _, _, h1, _⟩ := own_bufOpen h
 exact h1.2.1
theorem own_bufOk (h : Own B w0 (BufR bb tb W :: X) w) : OkW W := by
 obtain ⟨_, _, _, h1, _⟩ := own_bufOpen h
 exact h1.2.2
theorem own_bufAt (h : Own B w0 (BufA bb tb mb pt D W :: X) w) : (w.cell? ⟨bb, 0, none⟩ = some (ptrV tb) ∧ w.cell? ⟨bb, 1, none⟩ = some (.map (some mb))) ∧ w.ownsMap Tryz.prog 9 elP mb W.length D ∧ RowsAt w pt W := by
 obtain ⟨F, ⟨h1, h2, h3, _⟩, _⟩ := h.get
 exact ⟨h1, h2, h3⟩
theorem own_bufAtM (h : Own B w0 Y w) (hm : BufA bb tb mb pt D W ∈ Y) : (w.cell? ⟨bb, 0, none⟩ = some (ptrV tb) ∧ w.cell? ⟨bb, 1, none⟩ = some (.map (some mb))) ∧ w.ownsMap Tryz.prog 9 elP mb W.length D ∧ RowsAt w pt W := by
 obtain ⟨_, _, F, h1, _⟩ := h
 obtain ⟨F1, h2, h3, h4, _⟩ := sepF_mem h1 hm
 exact ⟨h2, h3, h4⟩
theorem own_bufSet {r : R4} {k : Str} (hr : In4 r) (hk : Ks.okKey k = true) (hM : MapIs D pt W ∧ Sorted W ∧ OkW W) (h : Own B w0 (BufA bb tb mb pt D W :: CellsR rb (r4V r) :: X) w)
  {n : Nat} (hV : V.ownsMap Tryz.prog 9 elP mb n (D.put (.string k) (.lit (.int .i64 rb)))) (hg : w.grownBy V (some mb)) : Own B w0 (BufR bb tb (ins (k, wrS (some r)) W) :: X) V := by
 have hMI : MapIs (D.put (.string k) (.lit (.int .i64 rb))) (fun j => if j = k then rb else pt j) (ins (k, wrS (some r)) W) := hM.1.put hM.2.1 k (wrS (some r)) rb
 have hf := Fr.grown hg
 refine Own.turn (L := [BufA bb tb mb pt D W, CellsR rb (r4V r)]) (L' := [BufR bb tb (ins (k, wrS (some r)) W)]) h (fun F hF => ?_)
 obtain ⟨F1, F2, e, ha, ⟨⟨h1, h2⟩, h3, h4, h5⟩, h6⟩ := hF
 obtain ⟨c1, c2, c3⟩ := SepF.get h6
 have hnb : bb ≠ mb := fun e => by subst e; rw [map_no_cell h3 0] at h1; cases h1
 have hcell : ∀ i, i < 4 → w.cell? ⟨rb, i, none⟩ = some (.int .i64 (col r i)) := fun i hi => by
  obtain ⟨r0, r1, r2, r3⟩ := r
  have : i = 0 ∨ i = 1 ∨ i = 2 ∨ i = 3 := by omega
  rcases this with rfl | rfl | rfl | rfl
  ·exact (c3 0 _ rfl).1
  ·exact (c3 1 _ rfl).1
  ·exact (c3 2 _ rfl).1
  ·exact (c3 3 _ rfl).1
 have hnr : rb ≠ mb := fun e => by have := hcell 0 (by omega); rw [e, map_no_cell h3 0] at this; cases this
 have hin : ∀ b o, bufF bb mb (fun j => if j = k then rb else pt j) (ins (k, wrS (some r)) W) b o → F b o := fun b o hb => by
  rcases hb with rfl | rfl | ⟨j, b', s, hj, rfl⟩
  ·exact (e _ _).2 (.inl ((h5 _ _).2 (.inl rfl)))
  ·exact (e _ _).2 (.inl ((h5 _ _).2 (.inr (.inl rfl))))
  ·by_cases ej : j = k
   ·simp only [ej, if_true]; exact (e _ _).2 (.inr ((c1 _ _).2 rfl))
   ·rw [get_ins_other hM.2.1 ej] at hj
    simp only [ej, if_false]
    exact (e _ _).2 (.inl ((h5 _ _).2 (.inr (.inr ⟨j, b', s, hj, rfl⟩))))
 refine ⟨bufF bb mb (fun j => if j = k then rb else pt j) (ins (k, wrS (some r)) W), SepF.one ⟨mb, _, _, ⟨hMI, hM.2.1.ins _, hM.2.2.ins hk (fun q e => by cases e; exact hr)⟩, ⟨cell_fr hf h1 (fun e => hnb (Option.some.inj e).symm), cell_fr hf h2 (fun e => hnb (Option.some.inj e).symm)⟩, ?_, ?_, fun _ _ => Iff.rfl⟩, hf.mono (fun b o hb => ?_), fun b o hb => .inl (hin b o hb)⟩
 ·have := map_tight hV
  rwa [hMI.size] at this
 ·intro j b' s hj i hi
  by_cases ej : j = k
  ·subst ej
   rw [get_ins] at hj
   cases hj
   simp only [if_true]
   rw [decT_encT hr]
   exact cell_fr hf (hcell i hi) (fun e => hnr (Option.some.inj e).symm)
  ·rw [get_ins_other hM.2.1 ej] at hj
   simp only [ej, if_false]
   have hc := h4 j b' s hj i hi
   exact cell_fr hf hc (fun e => by have e2 := Option.some.inj e; rw [← e2, map_no_cell h3 i] at hc; cases hc)
 ·have e2 := Option.some.inj hb
  subst e2
  exact (e _ _).2 (.inl ((h5 _ _).2 (.inr (.inl rfl))))
theorem own_bufCut {k : Str} (hk : Ks.okKey k = true) (hM : MapIs D pt W ∧ Sorted W ∧ OkW W) (h : Own B w0 (BufA bb tb mb pt D W :: X) w)
  {n : Nat} (hV : V.ownsMap Tryz.prog 9 elP mb n (D.put (.string k) .nil)) (hg : w.grownBy V (some mb)) : Own B w0 (BufR bb tb (ins (k, wrS none) W) :: X) V := by
 have hMI : MapIs (D.put (.string k) .nil) (fun j => if j = k then 0 else pt j) (ins (k, wrS none) W) := hM.1.put hM.2.1 k (wrS none) 0
 have hf := Fr.grown hg
 refine Own.turn (L := [BufA bb tb mb pt D W]) (L' := [BufR bb tb (ins (k, wrS none) W)]) h (fun F hF => ?_)
 obtain ⟨⟨h1, h2⟩, h3, h4, h5⟩ := SepF.get hF
 have hnb : bb ≠ mb := fun e => by subst e; rw [map_no_cell h3 0] at h1; cases h1
 have hold : ∀ j b' s, get j (ins (k, wrS none) W) = some (b' :: s) → j ≠ k ∧ get j W = some (b' :: s) := fun j b' s hj => by
  by_cases ej : j = k
  ·subst ej; rw [get_ins] at hj; cases hj
  ·rw [get_ins_other hM.2.1 ej] at hj; exact ⟨ej, hj⟩
 refine ⟨bufF bb mb (fun j => if j = k then 0 else pt j) (ins (k, wrS none) W), SepF.one ⟨mb, _, _, ⟨hMI, hM.2.1.ins _, hM.2.2.ins hk (fun q e => by cases e)⟩, ⟨cell_fr hf h1 (fun e => hnb (Option.some.inj e).symm), cell_fr hf h2 (fun e => hnb (Option.some.inj e).symm)⟩, ?_, ?_, fun _ _ => Iff.rfl⟩, hf.mono (fun b o hb => ?_), fun b o hb => .inl ?_⟩
 ·have := map_tight hV
  rwa [hMI.size] at this
 ·intro j b' s hj i hi
  obtain ⟨ej, hj⟩ := hold j b' s hj
  simp only [ej, if_false]
  have hc := h4 j b' s hj i hi
  exact cell_fr hf hc (fun e => by have e2 := Option.some.inj e; rw [← e2, map_no_cell h3 i] at hc; cases hc)
 ·have e2 := Option.some.inj hb
  subst e2
  exact (h5 _ _).2 (.inr (.inl rfl))
 ·rcases hb with rfl | rfl | ⟨j, b', s, hj, rfl⟩
  ·exact (h5 _ _).2 (.inl rfl)
  ·exact (h5 _ _).2 (.inr (.inl rfl))
  ·obtain ⟨ej, hj⟩ := hold j b' s hj
   simp only [ej, if_false]
   exact (h5 _ _).2 (.inr (.inr ⟨j, b', s, hj, rfl⟩))
theorem own_bufClear (h : Own B w0 (BufA bb tb mb pt D W :: X) w) {n : Nat} (hV : V.ownsMap Tryz.prog 9 elP mb n (.map [])) (hg : w.grownBy V (some mb)) : Own B w0 (BufR bb tb [] :: X) V := by
 have hf := Fr.grown hg
 refine Own.turn (L := [BufA bb tb mb pt D W]) (L' := [BufR bb tb []]) h (fun F hF => ?_)
 obtain ⟨⟨h1, h2⟩, h3, h4, h5⟩ := SepF.get hF
 have hnb : bb ≠ mb := fun e => by subst e; rw [map_no_cell h3 0] at h1; cases h1
 refine ⟨bufF bb mb pt [], SepF.one ⟨mb, pt, _, ⟨MapIs.nil pt, List.Pairwise.nil, OkW.nil⟩, ⟨cell_fr hf h1 (fun e => hnb (Option.some.inj e).symm), cell_fr hf h2 (fun e => hnb (Option.some.inj e).symm)⟩, map_tight hV, (fun _ _ _ h => by cases h), fun _ _ => Iff.rfl⟩, hf.mono (fun b o hb => ?_), fun b o hb => .inl ?_⟩
 ·have e2 := Option.some.inj hb
  subst e2
  exact (h5 _ _).2 (.inr (.inl rfl))
 ·rcases hb with rfl | rfl | ⟨j, b', s, hj, rfl⟩
  ·exact (h5 _ _).2 (.inl rfl)
  ·exact (h5 _ _).2 (.inr (.inl rfl))
  ·cases hj
theorem own_bufNew (h : Own B w0 X w) (tb : Nat) (t : TypeId) : Own B w0 (BufR (w.heap.size + 1) tb [] :: X) ((w.alloc (.map #[] 0)).alloc (.cells #[ptrV tb, .map (some w.heap.size)] t)) := by
 have hb : Below w.heap.size w ((w.alloc (.map #[] 0)).alloc (.cells #[ptrV tb, .map (some w.heap.size)] t)) := (al1 w _).trans ((al1 (w.alloc (.map #[] 0)) _).mono (by simp))
 refine h.add hb (F := bufF (w.heap.size + 1) w.heap.size (fun _ => 0) []) ⟨w.heap.size, fun _ => 0, .map [], ⟨MapIs.nil _, List.Pairwise.nil, OkW.nil⟩, ⟨by simp, by simp⟩, ?_, (fun _ _ _ h => by cases h), fun _ _ => Iff.rfl⟩ (fun b o hbo => ?_)
 ·exact (World.ownsMap_made w Tryz.prog 9 elP).alloc _
 ·rcases hbo with rfl | rfl | ⟨j, b', s, hj, rfl⟩
  ·omega
  ·exact Nat.le_refl _
  ·cases hj
end
end Bf
end Go.Proofs.YtecnijnmgdfdhaaGreat

namespace Go.Proofs.YtecnijnmgdfdhaaGreat
namespace Bf
open Go.RowKit Tr Tb
open Ky (less)
theorem zeroP (w : World) : (zeroValue 89).run Tryz.prog w = .ok (.pointer none) w := by kernel_rfl
section
variable {B : Nat} {w0 w V : World} {X Y : List Rs} {bb tb mb rb most o n : Nat} {pt : Str → Nat} {D : DataW Unit} {W L : List Pr}
def atC (pt : Str → Nat) (k : Str) (W : List Pr) : Option Nat := match get k W with | none => none | some v => elC pt k v
theorem look_run (hM : MapIs D pt W) (h : w.ownsMap Tryz.prog 9 elP mb n D) {k : Str} (hk : k.length ≤ 1000000) :
  (Instr.lookup 86 (.map (some mb)) (.string ⟨k.toArray⟩) true).run Tryz.prog w = .ok (.tuple #[ptrO (atC pt k W), .bool (get k W).isSome]) w := by
 obtain ⟨v, ps, hr, hv⟩ := h.look_ok kLaw Tryz.underlying86 (zeroP w) (zd := .nil) (zp := []) rfl (key_of hk)
 obtain ⟨c, rfl, hc⟩ := elP_inv hv
 rw [hr, hM.has]
 have : c = atC pt k W := by
  refine ptrD_inj ?_
  have h1 : D.atKey (.string k) .nil = ptrD c := congrArg Prod.fst hc
  rw [← h1]
  unfold atC
  cases hg : get k W with
  | none => exact Go.Maps.atKey_of_not_has (by rw [hM.has, hg]; rfl) _
  | some v => rw [hM.got k v hg]; exact elD_ptr pt k v
 rw [this]
theorem row_bad {A : List Pr} {k : Str} (h : Ks.okKey k = false) : getR k A = zr ∧ getE k A = 13 := by
 unfold getR getE
 rw [h]
 exact ⟨rfl, rfl⟩
theorem row_none {A : List Pr} {k : Str} (h : Ks.okKey k = true) (hg : get k A = none) : getR k A = zr ∧ getE k A = 14 := by
 unfold getR getE
 rw [h, hg]
 exact ⟨rfl, rfl⟩
theorem row_some {A : List Pr} {k s : Str} (h : Ks.okKey k = true) (hg : get k A = some s) : getR k A = decT s ∧ getE k A = 0 := by
 unfold getR getE
 rw [h, hg]
 exact ⟨rfl, rfl⟩
theorem row_same {A M : List Pr} {k : Str} (h : get k A = get k M) : getR k A = getR k M ∧ getE k A = getE k M := by
 unfold getR getE
 rw [h]
 exact ⟨rfl, rfl⟩
set_option maxHeartbeats 4000000 in
set_option maxRecDepth 100000 in
theorem own_bufGet (k : Str) (h : Own B w0 (BufR bb tb W :: TabR tb most o L :: X) w) :
  Calls Tryz.prog 28 #[ptrV bb, .string ⟨k.toArray⟩] w fun e V => e = .returned (.tuple #[rowW (getR k (overT W L)), .int .i64 (getE k (overT W L))]) ∧ Below w.heap.size w V := by
 obtain ⟨mb, pt, D, hM, hA⟩ := own_bufOpen h
 have hs : Sorted L := own_tabSorted h.swap
 have hover := over_get hM.2.1 hs k
 have hb1 := al1 w (.cells #[.int .i64 zr.1, .int .i64 zr.2.1, .int .i64 zr.2.2.1, .int .i64 zr.2.2.2] 41)
 have hZ := own_newRow (Own.nil w) zr 41
 obtain ⟨W1, hW1⟩ : ∃ W1, w.alloc (.cells #[.int .i64 0, .int .i64 0, .int .i64 0, .int .i64 0] 41) = W1 := ⟨_, rfl⟩
 have hZ : Own w.heap.size w [CellsR w.heap.size (r4V zr)] W1 := by rw [← hW1]; exact hZ
 have hb1 : Below w.heap.size w W1 := by rw [← hW1]; exact hb1
 have HZ := Lib.hid (fun V (hb : Below W1.heap.size W1 V) => own_zero (hZ.later hb))
 have HB1 := Lib.hid (fun V (hb : Below W1.heap.size W1 V) => hb1.trans (hb.mono hb1.size))
 obtain ⟨⟨x0, x1⟩, hown, hrows⟩ := own_bufAt (hA.later hb1)
 have HC := Lib.hid (fun V => Ks.check_any k V)
 have HG := Lib.hid (own_tabGet k (hA.swap.later hb1))
 have hv := HZ.out _ (Below.refl _ _)
 cases hkey : Ks.okKey k with
 | false =>
  rw [(row_bad (A := overT W L) hkey).1, (row_bad (A := overT W L) hkey).2]
  rw [show Ks.chk k = 13 by unfold Ks.chk; rw [hkey]; rfl] at HC
  have f0 := (hv 0 (by omega)).1
  have g0 := (hv 0 (by omega)).2
  have f1 := (hv 1 (by omega)).1
  have g1 := (hv 1 (by omega)).2
  have f2 := (hv 2 (by omega)).1
  have g2 := (hv 2 (by omega)).2
  have f3 := (hv 3 (by omega)).1
  have g3 := (hv 3 (by omega)).2
  clear h hA hZ hb1 hown hrows hM hs hover
  go_enter Tryz.func28, Tryz.ntmps28
  go_wp2_with (go_at_call 60; refine (HC.out _).mono ?_; rintro e V ⟨rfl, rfl⟩)
  have t4 := Rw.four_set W1 w.heap.size [] (.int .i64 0) (.int .i64 0) (.int .i64 0) (.int .i64 0) hv
  refine bodyPost_ret (v := .tuple #[rowW (0, 0, 0, 0), .int .i64 13]) (by simp [results, Tryz.results28, go_sem, t4.1, t4.2.1, t4.2.2.1, t4.2.2.2, rowW, zr]) rfl ?_
  exact ⟨rfl, (HB1.out _ (Below.refl _ _)).trans (((four_fr w.heap.size _ _ _ _ W1).below (HB1.out _ (Below.refl _ _)).size (fun b o e => by rw [e]; exact Nat.le_refl _)))⟩
 | true =>
  rw [show Ks.chk k = 0 by unfold Ks.chk; rw [hkey]; rfl] at HC
  have hlk0 := look_run hM.1 hown (k := k) (by unfold Ks.okKey at hkey; simp at hkey; omega)
  cases hg : get k W with
  | none =>
   have hlk : (Instr.lookup 86 (.map (some mb)) (.string ⟨k.toArray⟩) true).run Tryz.prog W1 = .ok (.tuple #[.pointer none, .bool false]) W1 := by rw [hlk0, atC, hg]; rfl
   rw [hg] at hover
   rw [(row_same hover).1, (row_same hover).2]
   have HG : Hid (Calls Tryz.prog 29 #[ptrV tb, .string ⟨k.toArray⟩] W1 fun e V => e = .returned (.tuple #[rowW (getR k L), .int .i64 (getE k L)]) ∧ Below W1.heap.size W1 V) := HG
   obtain ⟨⟨r0, r1, r2, r3⟩, hr⟩ : ∃ r, getR k L = r := ⟨_, rfl⟩
   obtain ⟨ec, hec⟩ : ∃ e, getE k L = e := ⟨_, rfl⟩
   rw [hr, hec] at HG ⊢
   simp only [rowW] at HG
   clear h hA hZ hb1 hown hrows hM hs hover hkey hg hr hec hlk0 hv
   go_enter Tryz.func28, Tryz.ntmps28
   go_wp2_with (first
    | (go_at_call 60; refine (HC.out _).mono ?_; rintro e V ⟨rfl, rfl⟩)
    | (go_at_call 29; refine HG.out.mono ?_; rintro e V ⟨rfl, hb⟩; have HB2 := Lib.hid hb; have hv := HZ.out _ hb; clear hb; have f0 := (hv 0 (by omega)).1; have g0 := (hv 0 (by omega)).2; have f1 := (hv 1 (by omega)).1; have g1 := (hv 1 (by omega)).2; have f2 := (hv 2 (by omega)).1; have g2 := (hv 2 (by omega)).2; have f3 := (hv 3 (by omega)).1; have g3 := (hv 3 (by omega)).2))
   have t4 := Rw.four_set V w.heap.size [] (.int .i64 r0) (.int .i64 r1) (.int .i64 r2) (.int .i64 r3) hv
   refine bodyPost_ret (v := .tuple #[rowW (r0, r1, r2, r3), .int .i64 ec]) (by simp [results, Tryz.results28, go_sem, t4.1, t4.2.1, t4.2.2.1, t4.2.2.2, rowW, zr]) rfl ?_
   have hb := HB1.out _ HB2.out
   exact ⟨rfl, hb.trans ((four_fr w.heap.size _ _ _ _ V).below hb.size (fun b o e => by rw [e]; exact Nat.le_refl _))⟩
  | some v =>
   cases v with
   | nil =>
    have hlk : (Instr.lookup 86 (.map (some mb)) (.string ⟨k.toArray⟩) true).run Tryz.prog W1 = .ok (.tuple #[.pointer none, .bool true]) W1 := by rw [hlk0, atC, hg]; rfl
    rw [hg] at hover
    rw [(row_none (A := overT W L) hkey hover).1, (row_none (A := overT W L) hkey hover).2]
    have f0 := (hv 0 (by omega)).1
    have g0 := (hv 0 (by omega)).2
    have f1 := (hv 1 (by omega)).1
    have g1 := (hv 1 (by omega)).2
    have f2 := (hv 2 (by omega)).1
    have g2 := (hv 2 (by omega)).2
    have f3 := (hv 3 (by omega)).1
    have g3 := (hv 3 (by omega)).2
    clear h hA hZ hb1 hown hrows hM hs hover hkey hg hlk0
    go_enter Tryz.func28, Tryz.ntmps28
    go_wp2_with (go_at_call 60; refine (HC.out _).mono ?_; rintro e V ⟨rfl, rfl⟩)
    have t4 := Rw.four_set W1 w.heap.size [] (.int .i64 0) (.int .i64 0) (.int .i64 0) (.int .i64 0) hv
    refine bodyPost_ret (v := .tuple #[rowW (0, 0, 0, 0), .int .i64 14]) (by simp [results, Tryz.results28, go_sem, t4.1, t4.2.1, t4.2.2.1, t4.2.2.2, rowW, zr]) rfl ?_
    exact ⟨rfl, (HB1.out _ (Below.refl _ _)).trans (((four_fr w.heap.size _ _ _ _ W1).below (HB1.out _ (Below.refl _ _)).size (fun b o e => by rw [e]; exact Nat.le_refl _)))⟩
   | cons b s =>
    have hlk : (Instr.lookup 86 (.map (some mb)) (.string ⟨k.toArray⟩) true).run Tryz.prog W1 = .ok (.tuple #[.pointer (some ⟨pt k, 0, none⟩), .bool true]) W1 := by rw [hlk0, atC, hg]; rfl
    rw [hg] at hover
    rw [(row_some (A := overT W L) hkey hover).1, (row_some (A := overT W L) hkey hover).2]
    have z := hrows k b s hg
    obtain ⟨⟨r0, r1, r2, r3⟩, hr⟩ : ∃ r, decT s = r := ⟨_, rfl⟩
    rw [hr] at z
    have z0 : W1.cell? ⟨pt k, 0, none⟩ = some (.int .i64 r0) := z 0 (by omega)
    have z1 : W1.cell? ⟨pt k, 1, none⟩ = some (.int .i64 r1) := z 1 (by omega)
    have z2 : W1.cell? ⟨pt k, 2, none⟩ = some (.int .i64 r2) := z 2 (by omega)
    have z3 : W1.cell? ⟨pt k, 3, none⟩ = some (.int .i64 r3) := z 3 (by omega)
    obtain ⟨q, hq⟩ : ∃ q, pt k = q := ⟨_, rfl⟩
    rw [hq] at hlk z0 z1 z2 z3
    have f0 := (hv 0 (by omega)).1
    have g0 := (hv 0 (by omega)).2
    have f1 := (hv 1 (by omega)).1
    have g1 := (hv 1 (by omega)).2
    have f2 := (hv 2 (by omega)).1
    have g2 := (hv 2 (by omega)).2
    have f3 := (hv 3 (by omega)).1
    have g3 := (hv 3 (by omega)).2
    rw [hr]
    clear h hA hZ hb1 hown hrows hM hs hover hkey hg hr z hq hlk0
    go_enter Tryz.func28, Tryz.ntmps28
    go_wp2_with (go_at_call 60; refine (HC.out _).mono ?_; rintro e V ⟨rfl, rfl⟩)
    have t4 := Rw.four_set W1 w.heap.size [] (.int .i64 r0) (.int .i64 r1) (.int .i64 r2) (.int .i64 r3) hv
    refine bodyPost_ret (v := .tuple #[rowW (r0, r1, r2, r3), .int .i64 0]) (by simp [results, Tryz.results28, go_sem, t4.1, t4.2.1, t4.2.2.1, t4.2.2.2, rowW, zr]) rfl ?_
    exact ⟨rfl, (HB1.out _ (Below.refl _ _)).trans (((four_fr w.heap.size _ _ _ _ W1).below (HB1.out _ (Below.refl _ _)).size (fun b o e => by rw [e]; exact Nat.le_refl _)))⟩
end
end Bf
end Go.Proofs.YtecnijnmgdfdhaaGreat
