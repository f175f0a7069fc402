/- Joined: Bf20, Bf22, Bf26, Bf27. -/
import Derived.Test.YtecnijnmgdfdhaaGreatYBfB
import Derived.Test.YtecnijnmgdfdhaaGreatYLawB
import Derived.Test.YtecnijnmgdfdhaaGreatYBfD
import Derived.Laws.StructEq
import Derived.Test.YtecnijnmgdfdhaaGreatYBfE
import Derived.Test.YtecnijnmgdfdhaaGreatYBfG
namespace Go.Proofs.YtecnijnmgdfdhaaGreat
namespace Bf
open Go.RowKit Tr Tb
open Ky (less)
abbrev FE := Int × Str
def fb (e : FE) : Pr := (Ky.put e.1 e.2, [])
def fu (W L : List Pr) (c : Nat) (k : Str) : Option FE := match get k W with
 | none => some (col (getR k L) c, k)
 | some _ => none
def fw (c : Nat) (lo hi : Int) (p : Pr) : Option FE := match p.2 with
 | [] => none
 | _ :: s => if lo ≤ col (decT s) c ∧ col (decT s) c ≤ hi then some (col (decT s) c, p.1) else none
section
variable {W L : List Pr} {c : Nat} {lo hi : Int}
theorem keysOf_nodup (ok : OkT L) (hs : Sorted L) (h1 : Ky.In lo) (h2 : Ky.In hi) : (keysOf (hits c lo hi L)).Nodup := by
 unfold keysOf
 rw [hits_filter ok c h1 h2, List.nodup_iff_pairwise_ne, List.pairwise_map]
 have hp : ((idx c L).filter fun p => decide (lo ≤ vOf p.1 ∧ vOf p.1 ≤ hi)).Pairwise (fun a b => less a.1 b.1 = true) := (idx_sorted c L).filter _
 refine hp.imp_of_mem (fun {a b} ha hb hl e => ?_)
 obtain ⟨p, hpm, e1, e2, _⟩ := idx_row ok hs (List.mem_filter.1 ha).1
 obtain ⟨q, hqm, e3, e4, _⟩ := idx_row ok hs (List.mem_filter.1 hb).1
 have epq : p = q := sorted_uniq hs hpm hqm (by rw [← e1, ← e3, e])
 rcases idx_order ok (List.mem_filter.1 ha).1 (List.mem_filter.1 hb).1 hl with h | ⟨_, h⟩
 ·rw [e2, e4, epq] at h
  omega
 ·rw [e, Ky.less_self] at h
  cases h
theorem mem_keysOf (ok : OkT L) (hs : Sorted L) (h1 : Ky.In lo) (h2 : Ky.In hi) {k : Str} : k ∈ keysOf (hits c lo hi L) ↔ ∃ s, get k L = some s ∧ lo ≤ col (decT s) c ∧ col (decT s) c ≤ hi := by
 unfold keysOf
 rw [hits_filter ok c h1 h2, List.mem_map]
 constructor
 ·rintro ⟨q, hq, rfl⟩
  obtain ⟨hq1, hq2⟩ := List.mem_filter.1 hq
  obtain ⟨p, hpm, e1, e2, e3⟩ := idx_row ok hs hq1
  have := of_decide_eq_true hq2
  rw [e2] at this
  exact ⟨p.2, by rw [e1]; exact e3, this⟩
 ·rintro ⟨s, hg, h3⟩
  have hm : (k, s) ∈ L := (mem_get hs).1 hg
  obtain ⟨a, b, d⟩ := idx_of ok (c := c) hm
  exact ⟨_, List.mem_filter.2 ⟨a, by rw [d]; exact decide_eq_true h3⟩, b⟩
theorem fu_key {k : Str} {e : FE} (h : fu W L c k = some e) : e.2 = k ∧ get k W = none ∧ e.1 = col (getR k L) c := by
 unfold fu at h
 split at h
 ·next hg => cases h; exact ⟨rfl, hg, rfl⟩
 ·cases h
theorem fw_key {p : Pr} {e : FE} (h : fw c lo hi p = some e) : e.2 = p.1 ∧ ∃ b s, p.2 = b :: s ∧ lo ≤ col (decT s) c ∧ col (decT s) c ≤ hi ∧ e.1 = col (decT s) c := by
 unfold fw at h
 split at h
 ·cases h
 ·next b s e2 =>
  split at h
  ·next hr => cases h; exact ⟨rfl, b, s, e2, hr.1, hr.2, rfl⟩
  ·cases h
def gath (W L : List Pr) (c : Nat) (lo hi : Int) (xs : List Pr) : List FE := (keysOf (hits c lo hi L)).filterMap (fu W L c) ++ xs.filterMap (fw c lo hi)
theorem gath_mem (hW : OkW W) (sW : Sorted W) (ok : OkT L) (hs : Sorted L) (h1 : Ky.In lo) (h2 : Ky.In hi) {xs : List Pr} (hx : xs.Perm W) {e : FE} :
  e ∈ gath W L c lo hi xs ↔ ∃ s, get e.2 (overT W L) = some s ∧ lo ≤ col (decT s) c ∧ col (decT s) c ≤ hi ∧ e.1 = col (decT s) c := by
 unfold gath
 rw [List.mem_append, List.mem_filterMap, List.mem_filterMap, over_get sW hs]
 constructor
 ·rintro (⟨k, hk, hf⟩ | ⟨p, hp, hf⟩)
  ·obtain ⟨rfl, hg, e1⟩ := fu_key hf
   obtain ⟨s, hgs, h3, h4⟩ := (mem_keysOf ok hs h1 h2).1 hk
   have hok : Ks.okKey e.2 = true := (ok _ ((mem_get hs).1 hgs)).1
   rw [(row_some hok hgs).1] at e1
   exact ⟨s, by rw [hg]; exact hgs, h3, h4, e1⟩
  ·obtain ⟨e2, b, s, e3, h3, h4, e1⟩ := fw_key hf
   have hg : get e.2 W = some (b :: s) := by rw [e2, ← e3]; exact (mem_get sW).2 (hx.mem_iff.1 hp)
   exact ⟨s, by rw [hg]; rfl, h3, h4, e1⟩
 ·rintro ⟨s, hg, h3, h4, e1⟩
  cases hgw : get e.2 W with
  | none =>
   rw [hgw] at hg
   have hgl : get e.2 L = some s := hg
   have hok : Ks.okKey e.2 = true := (ok _ ((mem_get hs).1 hgl)).1
   refine .inl ⟨e.2, (mem_keysOf ok hs h1 h2).2 ⟨s, hgl, h3, h4⟩, ?_⟩
   unfold fu
   rw [hgw]
   show some (col (getR e.2 L) c, e.2) = some e
   rw [(row_some hok hgl).1, ← e1]
  | some v =>
   rw [hgw] at hg
   have hr : rowOf v = some s := hg
   cases v with
   | nil => cases hr
   | cons b s2 =>
    cases hr
    refine .inr ⟨(e.2, b :: s), hx.mem_iff.2 ((mem_get sW).1 hgw), ?_⟩
    show (if lo ≤ col (decT s) c ∧ col (decT s) c ≤ hi then some (col (decT s) c, e.2) else none) = some e
    rw [if_pos ⟨h3, h4⟩, ← e1]
theorem fm_sub {α β : Type} (f : α → Option β) (g : β → Str) (k : α → Str) (h : ∀ a b, f a = some b → g b = k a) : ∀ l : List α, ((l.filterMap f).map g).Sublist (l.map k)
 | [] => List.Sublist.slnil
 | a :: l => by
  rw [List.filterMap_cons, List.map_cons]
  cases hf : f a with
  | none => exact (fm_sub f g k h l).cons _
  | some b => rw [List.map_cons, h a b hf]; exact (fm_sub f g k h l).cons_cons _
theorem sorted_keys (sW : Sorted W) : (W.map Prod.fst).Nodup := by
 rw [List.nodup_iff_pairwise_ne, List.pairwise_map]
 exact sW.imp (fun {a b} hl e => by rw [e, Ky.less_self] at hl; cases hl)
theorem gath_nodup (sW : Sorted W) (ok : OkT L) (hs : Sorted L) (h1 : Ky.In lo) (h2 : Ky.In hi) {xs : List Pr} (hx : xs.Perm W) : ((gath W L c lo hi xs).map Prod.snd).Nodup := by
 unfold gath
 rw [List.map_append, List.nodup_append]
 refine ⟨(fm_sub (fu W L c) Prod.snd id (fun a b h => (fu_key h).1) _).nodup (by simpa using keysOf_nodup ok hs h1 h2), (fm_sub (fw c lo hi) Prod.snd Prod.fst (fun a b h => (fw_key h).1) _).nodup ((hx.map Prod.fst).nodup_iff.2 (sorted_keys sW)), ?_⟩
 intro a ha b hb e
 subst e
 obtain ⟨x, hx1, rfl⟩ := List.mem_map.1 ha
 obtain ⟨y, hy1, e⟩ := List.mem_map.1 hb
 obtain ⟨k, _, hk⟩ := List.mem_filterMap.1 hx1
 obtain ⟨p, hp, hf⟩ := List.mem_filterMap.1 hy1
 have hg : get p.1 W = some p.2 := (mem_get sW).2 (hx.mem_iff.1 hp)
 rw [← (fw_key hf).1, e, (fu_key hk).1, (fu_key hk).2.1] at hg
 cases hg
theorem find_law (hW : OkW W) (sW : Sorted W) (ok : OkT L) (hs : Sorted L) (h1 : Ky.In lo) (h2 : Ky.In hi) {xs : List Pr} (hx : xs.Perm W) {E : List FE} (hE : E.Perm (gath W L c lo hi xs))
  (hp : E.Pairwise (fun a b => ¬ Ky.cmpE b.1 b.2 a.1 a.2 < 0)) : E.map Prod.snd = keysOf (hits c lo hi (overT W L)) := by
 have okM := over_ok hW ok
 have hM := over_sorted W hs
 have hmem : ∀ e : FE, e ∈ E ↔ ∃ s, get e.2 (overT W L) = some s ∧ lo ≤ col (decT s) c ∧ col (decT s) c ≤ hi ∧ e.1 = col (decT s) c := fun e => hE.mem_iff.trans (gath_mem hW sW ok hs h1 h2 hx)
 have hin : ∀ e ∈ E, Ky.In e.1 := fun e he => by
  obtain ⟨s, hg, _, _, e1⟩ := (hmem e).1 he
  rw [e1]
  exact okM.col ((mem_get hM).1 hg) c
 have hnd : (E.map Prod.snd).Nodup := (hE.map Prod.snd).nodup_iff.2 (gath_nodup sW ok hs h1 h2 hx)
 rw [List.nodup_iff_pairwise_ne, List.pairwise_map] at hnd
 have hso : Sorted (E.map fb) := by
  unfold Sorted
  rw [List.pairwise_map]
  refine (hp.and hnd).imp_of_mem (fun {a b} ha hb ⟨h3, h4⟩ => ?_)
  show less (Ky.put a.1 a.2) (Ky.put b.1 b.2) = true
  rw [Ky.put_less (hin a ha) (hin b hb)]
  refine decide_eq_true ?_
  have h5 := Ky.cmpE_swap a.1 a.2 b.1 b.2
  rcases Ky.cmpE_range a.1 a.2 b.1 b.2 with h6 | h6 | h6
  ·omega
  ·exact absurd (Ky.cmpE_zero.1 h6).2 h4
  ·omega
 have e : E.map fb = hits c lo hi (overT W L) := by
  have hso2 : Sorted (hits c lo hi (overT W L)) := by rw [hits_filter okM c h1 h2]; exact (idx_sorted c _).filter _
  refine sorted_ext hso hso2 (fun p => ?_)
  rw [List.mem_map, hits_filter okM c h1 h2, List.mem_filter]
  constructor
  ·rintro ⟨e, he, rfl⟩
   obtain ⟨s, hg, h3, h4, e1⟩ := (hmem e).1 he
   obtain ⟨a, b, d⟩ := idx_of okM (c := c) ((mem_get hM).1 hg)
   have hent : ent c (e.2, s) = Ky.put e.1 e.2 := by unfold ent; rw [e1]
   rw [hent] at a d
   refine ⟨a, ?_⟩
   show decide (lo ≤ vOf (Ky.put e.1 e.2) ∧ vOf (Ky.put e.1 e.2) ≤ hi) = true
   rw [d]
   exact decide_eq_true ⟨h3, h4⟩
  ·rintro ⟨hq, hr⟩
   obtain ⟨q, hqm, e1, e2, e3⟩ := idx_row okM hM hq
   obtain ⟨h5, q2, hq2, e4⟩ := mem_idx.1 hq
   have hr2 := of_decide_eq_true hr
   rw [e2] at hr2
   refine ⟨(col (decT q.2) c, q.1), (hmem _).2 ⟨q.2, e3, hr2.1, hr2.2, rfl⟩, ?_⟩
   have h6 : q2 = q := by
    refine sorted_uniq hM hq2 hqm ?_
    rw [← e1, ← e4]
    exact (kOf_put _ _).symm
   subst h6
   obtain ⟨p1, p2⟩ := p
   simp only at h5 e4
   subst h5
   exact Prod.ext e4 rfl
 unfold keysOf
 rw [← e, List.map_map]
 refine List.map_congr_left (fun x _ => ?_)
 show x.2 = kOf (Ky.put x.1 x.2)
 rw [kOf_put]
theorem fm_take {α β : Type} (f : α → Option β) {l : List α} {j : Nat} {x : α} (h : l[j]? = some x) : (l.take (j + 1)).filterMap f = (l.take j).filterMap f ++ (f x).toList := by
 rw [List.take_add_one, h, List.filterMap_append]
 cases hf : f x <;> simp [hf]
theorem fm_snoc {α β : Type} (f : α → Option β) (l : List α) (x : α) : (l ++ [x]).filterMap f = l.filterMap f ++ (f x).toList := by
 rw [List.filterMap_append]
 cases hf : f x <;> simp [hf]
end
end Bf
end Go.Proofs.YtecnijnmgdfdhaaGreat

namespace Go.Proofs.YtecnijnmgdfdhaaGreat
namespace Bf
open Go.RowKit Tr Tb
open Ky (less)
open Go.Sort
def Gr (w V : World) : Prop := ∃ (q : Nat) (os : Array Obj), V = Go.Sort.grow (w.drewN q) os
theorem Gr.refl (w : World) : Gr w w := ⟨0, #[], by rw [World.drewN_zero, Go.Sort.grow_empty]⟩
theorem Gr.alloc {w V : World} (h : Gr w V) (o : Obj) : Gr w (V.alloc o) := by
 obtain ⟨q, os, rfl⟩ := h
 exact ⟨q, os ++ #[o], by rw [alloc_eq_grow, grow_grow]⟩
theorem Gr.drewN {w V : World} (h : Gr w V) (n : Nat) : Gr w (V.drewN n) := by
 obtain ⟨q, os, rfl⟩ := h
 refine ⟨q + n, os, ?_⟩
 rw [← World.drewN_drewN]
 rfl
theorem Gr.drew {w V : World} (h : Gr w V) : Gr w V.drew := h.drewN 1
theorem Gr.trans {w V U : World} (h : Gr w V) (k : Gr V U) : Gr w U := by
 obtain ⟨n, os, rfl⟩ := k
 obtain ⟨q, os2, h2⟩ := h.drewN n
 exact ⟨q, os2 ++ os, by rw [h2, grow_grow]⟩
theorem eqEntryF (v : Int) (s : ByteArray) (x : Int) (t : ByteArray) (w : World) : (Op.equalIn 10000 119 (.agg #[.int .i64 v, .string s]) (.agg #[.int .i64 x, .string t])).run Tryz.prog w = .ok (v == x && s.toList == t.toList) w := by
 have u3 := Tryz.underlying3
 have a3 := Tryz.isAgg3
 have z3 := Tryz.sizeOf3
 have u9 := Tryz.underlying9
 have a9 := Tryz.isAgg9
 have z9 := Tryz.sizeOf9
 have hS : Tryz.prog.underlying 119 = some (.struct (Tryz.prog.fieldsOf 119)) := by kernel_rfl
 have hp : Tryz.prog.stoodInHeld 119 = false := by kernel_rfl
 rw [show (10000 : Nat) = 9999 + 1 from rfl, run_equalIn_agg w 9999 119 _ _ hS hp]
 simp only [Program.fieldsOf, Tryz.underlying119]
 go_simp
 by_cases h1 : v = x <;> by_cases h2 : s.toList = t.toList <;> simp [h1, h2]
theorem guardEntryF : Tryz.prog.eqGuardType Tryz.prog.depth 119 = false := by kernel_rfl
theorem eqF_run (v : Int) (s : List UInt8) (x : Int) (t : List UInt8) (b : Bool) (h : (v == x && s == t) = b) (w : World) : (binOp .eql 119 (.agg #[.int .i64 v, .string ⟨s.toArray⟩]) (.agg #[.int .i64 x, .string ⟨t.toArray⟩])).run Tryz.prog w = .ok (.bool b) w := by
 rw [run_eql_struct, eqEntryF, list_of, list_of, h]; rfl
theorem freshF (w : World) (a b : Value) (t : TypeId) (fr : Nat × Nat) (i : Nat) (u : Value) (h : #[a, b][i]? = some u) : (w.alloc (.cells #[a, b] t fr)).drew.cell? ⟨w.heap.size, i, none⟩ = some u := by
 have := cell_of_row (w.alloc (.cells #[a, b] t fr)) w.heap.size i _ t fr (heap_alloc_new w _)
 exact this.trans h
theorem cmpF_eq (v : Int) (s : List UInt8) (x : Int) (t : List UInt8) : (if cmpI v x = 0 then Ky.cmpS s t else cmpI v x) = Ky.cmpE v s x t := by
 unfold cmpI Ky.cmpE
 by_cases h1 : v < x
 ·simp [h1]
 ·by_cases h2 : x < v <;> simp [h1, h2]
theorem firstF (a b : Int) (g : Nat) (w : World) (h0 : w.cell? ⟨g, 0, none⟩ = some (.int .i64 a)) (h1 : w.cell? ⟨g, 1, none⟩ = some (.int .i64 b)) :
  Calls Tryz.prog 111 #[.slice (some ⟨g, 0, none⟩) 2 2] w fun e w' => e = .returned (.int .i64 (if a = 0 then b else a)) ∧ w = w' := by
 by_cases ha : a = 0
 ·subst ha
  by_cases hb : b = 0
  ·subst hb
   go_enter Tryz.func111, Tryz.ntmps111
   go_wp2
   go_rounds 3
   go_ret
   exact ⟨rfl, rfl⟩
  ·have hd : (b != 0) = true := by rw [bne_iff_ne]; exact hb
   go_enter Tryz.func111, Tryz.ntmps111
   go_wp2
   go_rounds 3
   go_ret
   exact ⟨rfl, rfl⟩
 ·have hd : (a != 0) = true := by rw [bne_iff_ne]; exact ha
  rw [if_neg ha]
  go_enter Tryz.func111, Tryz.ntmps111
  go_wp2
  go_rounds 3
  go_ret
  exact ⟨rfl, rfl⟩
theorem firstF_of (v : Int) (s : List UInt8) (x : Int) (t : List UInt8) (g : Nat) (w : World) (h0 : w.cell? ⟨g, 0, none⟩ = some (.int .i64 (cmpI v x))) (h1 : w.cell? ⟨g, 1, none⟩ = some (.int .i64 (Ky.cmpS s t))) :
  Calls Tryz.prog 111 #[.slice (some ⟨g, 0, none⟩) 2 2] w fun e w' => e = .returned (.int .i64 (Ky.cmpE v s x t)) ∧ w = w' := by
 rw [← cmpF_eq]
 exact firstF _ _ g w h0 h1
set_option maxHeartbeats 1000000 in
theorem compareF (v : Int) (s : List UInt8) (x : Int) (t : List UInt8) (w : World) :
  Calls Tryz.prog 77 #[.agg #[.int .i64 v, .string ⟨s.toArray⟩], .agg #[.int .i64 x, .string ⟨t.toArray⟩]] w fun e w' => e = .returned (.int .i64 (Ky.cmpE v s x t)) ∧ Gr w w' := by
 have hg := guardEntryF
 by_cases h : (v == x && s == t) = true
 ·have hz : Ky.cmpE v s x t = 0 := by
   rw [Ky.cmpE_zero]; simpa using h
  have heq := eqF_run v s x t true h
  have HZ := Lib.hid hz
  clear hz h
  go_enter Tryz.func77, Tryz.ntmps77
  go_wp2
  rw [HZ.out]
  go_ret
  exact ⟨rfl, ((Gr.refl _).alloc _).alloc _⟩
 ·have h' : (v == x && s == t) = false := by simpa using h
  have heq := eqF_run v s x t false h'
  clear h h'
  go_enter Tryz.func77, Tryz.ntmps77
  go_wp2
  have hb0 := ((Gr.refl w).alloc (.cells #[.int .i64 v, .string ⟨s.toArray⟩] 119)).alloc (.cells #[.int .i64 x, .string ⟨t.toArray⟩] 119)
  have c0 : ((w.alloc (.cells #[.int .i64 v, .string ⟨s.toArray⟩] 119)).alloc (.cells #[.int .i64 x, .string ⟨t.toArray⟩] 119)).cell? ⟨w.heap.size, 0, none⟩ = some (.int .i64 v) := by simp
  have c1 : ((w.alloc (.cells #[.int .i64 v, .string ⟨s.toArray⟩] 119)).alloc (.cells #[.int .i64 x, .string ⟨t.toArray⟩] 119)).cell? ⟨w.heap.size, 1, none⟩ = some (.string ⟨s.toArray⟩) := by simp
  have c2 : ((w.alloc (.cells #[.int .i64 v, .string ⟨s.toArray⟩] 119)).alloc (.cells #[.int .i64 x, .string ⟨t.toArray⟩] 119)).cell? ⟨w.heap.size + 1, 0, none⟩ = some (.int .i64 x) := by simp
  have c3 : ((w.alloc (.cells #[.int .i64 v, .string ⟨s.toArray⟩] 119)).alloc (.cells #[.int .i64 x, .string ⟨t.toArray⟩] 119)).cell? ⟨w.heap.size + 1, 1, none⟩ = some (.string ⟨t.toArray⟩) := by simp
  have HB0 := Lib.hid hb0
  have C0 := Lib.hid c0
  have C1 := Lib.hid c1
  have C2 := Lib.hid c2
  have C3 := Lib.hid c3
  clear hb0 c0 c1 c2 c3 heq
  generalize (w.alloc (.cells #[.int .i64 v, .string ⟨s.toArray⟩] 119)).alloc (.cells #[.int .i64 x, .string ⟨t.toArray⟩] 119) = W0 at *
  go_region_held3 (fun W => (W.cell? ⟨w.heap.size, 0, none⟩ = some (.int .i64 v) ∧ W.cell? ⟨w.heap.size, 1, none⟩ = some (.string ⟨s.toArray⟩)) ∧ W.cell? ⟨w.heap.size + 1, 0, none⟩ = some (.int .i64 x) ∧ W.cell? ⟨w.heap.size + 1, 1, none⟩ = some (.string ⟨t.toArray⟩))
   (first | exact ⟨⟨C0.out, C1.out⟩, C2.out, C3.out⟩ | exact ⟨⟨old_cell C0.out (al1 _ _), old_cell C1.out (al1 _ _)⟩, old_cell C2.out (al1 _ _), old_cell C3.out (al1 _ _)⟩ | exact ⟨⟨old_cell C0.out (al1 _ _).drew, old_cell C1.out (al1 _ _).drew⟩, old_cell C2.out (al1 _ _).drew, old_cell C3.out (al1 _ _).drew⟩)
   (first
    | (go_at_call 112; refine (cmpInt v x _).mono ?_; rintro e w1 ⟨rfl, rfl⟩)
    | (go_at_call 113; refine (cmpStr s t _).mono ?_; rintro e w1 ⟨rfl, rfl⟩)
    | (go_at_call 111; refine (firstF_of v s x t W0.heap.size _ (freshF _ _ _ _ _ 0 (.int .i64 (cmpI v x)) rfl) (freshF _ _ _ _ _ 1 (.int .i64 (Ky.cmpS s t)) rfl)).mono ?_; rintro e w1 ⟨rfl, rfl⟩))
  go_wp2
  go_ret
  exact ⟨rfl, HB0.out.trans ((Gr.refl _).alloc _).drew⟩
theorem orderF_run (v : Int) (s : Str) (x : Int) (t : Str) (w : World) : Calls Tryz.prog 49 #[.agg #[.int .i64 v, .string ⟨s.toArray⟩], .agg #[.int .i64 x, .string ⟨t.toArray⟩]] w fun e V =>
  e = .returned (.int .i64 (Ky.cmpE v s x t)) ∧ Gr w V := by
 have HC := Lib.hid (fun W => compareF v s x t W)
 go_enter Tryz.func49, Tryz.ntmps49
 go_wp2_with (go_at_call 77; refine (HC.out _).mono ?_; rintro e V ⟨rfl, h⟩; have HV := Lib.hid h; clear h)
 go_ret
 exact ⟨rfl, (((Gr.refl w).alloc _).alloc _).trans HV.out⟩
def feE (e : FE) : List Value := [.int .i64 e.1, .string ⟨e.2.toArray⟩]
def fesV (E : List FE) : List Value := E.flatMap feE
theorem feE_one (e : FE) : ∀ u ∈ feE e, u.oneCell' = true := by
 intro u hu
 simp only [feE, List.mem_cons, List.not_mem_nil, or_false] at hu
 rcases hu with rfl | rfl <;> rfl
theorem fesV_cons (e : FE) (E : List FE) : fesV (e :: E) = .int .i64 e.1 :: .string ⟨e.2.toArray⟩ :: fesV E := rfl
theorem fesV_len (E : List FE) : (fesV E).length = E.length * 2 := by
 induction E with
 | nil => rfl
 | cons e E ih => rw [fesV_cons]; simp only [List.length_cons]; rw [ih]; omega
theorem fesV_app (A C : List FE) : fesV (A ++ C) = fesV A ++ fesV C := by unfold fesV; simp
theorem fesV_one (E : List FE) : ∀ u ∈ fesV E, u.oneCell' = true := by
 intro u hu
 obtain ⟨e, _, h⟩ := List.mem_flatMap.1 hu
 exact feE_one e u h
theorem fesV_get : ∀ {E : List FE} {k : Nat} {e : FE}, E[k]? = some e → (fesV E)[k * 2]? = some (.int .i64 e.1) ∧ (fesV E)[k * 2 + 1]? = some (.string ⟨e.2.toArray⟩)
 | [], k, e, h => by simp at h
 | x :: E, 0, e, h => by simp at h; subst h; exact ⟨rfl, rfl⟩
 | x :: E, k + 1, e, h => by
  have := fesV_get (E := E) (k := k) (e := e) (by simpa using h)
  rw [fesV_cons, show (k + 1) * 2 = k * 2 + 1 + 1 by omega]
  simpa using this
def cfF (p q : FE) : Int := Ky.cmpE p.1 p.2 q.1 q.2
theorem cmpS_trans {s t u : Str} (h1 : ¬ Ky.cmpS s t < 0) (h2 : ¬ Ky.cmpS t u < 0) : ¬ Ky.cmpS s u < 0 := by
 rw [Ky.cmpS_neg] at *
 intro h
 rcases Ky.less_trich s t with e | e | e
 ·subst e; exact h2 h
 ·exact h1 e
 ·exact h2 (Tr.less_trans e h)
theorem swoF : SWO (ltOf cfF) := by
 have ht : ∀ x y : FE, ltOf cfF x y = true ↔ Ky.cmpE x.1 x.2 y.1 y.2 < 0 := fun x y => by unfold ltOf cfF; simp
 have hc : ∀ x y : FE, Ky.cmpE x.1 x.2 y.1 y.2 < 0 ↔ x.1 < y.1 ∨ (x.1 = y.1 ∧ less x.2 y.2 = true) := fun x y => by
  unfold Ky.cmpE
  by_cases h1 : x.1 < y.1
  ·simp [h1]
  ·by_cases h2 : y.1 < x.1
   ·simp [h1, h2]; omega
   ·rw [if_neg h1, if_neg h2, Ky.cmpS_neg]
    have : x.1 = y.1 := by omega
    simp [this]
 refine ⟨fun x => ?_, fun x y z h1 h2 => ?_, fun x y z h1 h2 => ?_⟩
 ·cases h : ltOf cfF x x with
  | false => rfl
  | true =>
   rcases (hc x x).1 ((ht x x).1 h) with h | ⟨_, h⟩
   ·omega
   ·rw [Ky.less_self] at h; cases h
 ·rw [ht, hc] at *
  rcases h1 with h1 | ⟨e1, h1⟩ <;> rcases h2 with h2 | ⟨e2, h2⟩
  ·exact .inl (by omega)
  ·exact .inl (by omega)
  ·exact .inl (by omega)
  ·exact .inr ⟨by omega, Tr.less_trans h1 h2⟩
 ·have n1 : ¬ (x.1 < y.1 ∨ (x.1 = y.1 ∧ less x.2 y.2 = true)) := fun h => by rw [(ht x y).2 ((hc x y).2 h)] at h1; cases h1
  have n2 : ¬ (y.1 < z.1 ∨ (y.1 = z.1 ∧ less y.2 z.2 = true)) := fun h => by rw [(ht y z).2 ((hc y z).2 h)] at h2; cases h2
  cases h : ltOf cfF x z with
  | false => rfl
  | true =>
   exfalso
   rcases (hc x z).1 ((ht x z).1 h) with h | ⟨e, h⟩
   ·exact n1 (.inl (by have := fun g => n2 (.inl g); omega))
   ·have e1 : x.1 = y.1 := by have a1 := fun g => n1 (.inl g); have a2 := fun g => n2 (.inl g); omega
    have b1 : ¬ less x.2 y.2 = true := fun g => n1 (.inr ⟨e1, g⟩)
    have b2 : ¬ less y.2 z.2 = true := fun g => n2 (.inr ⟨by omega, g⟩)
    exact cmpS_trans (fun g => b1 (Ky.cmpS_neg.1 g)) (fun g => b2 (Ky.cmpS_neg.1 g)) (Ky.cmpS_neg.2 h)
theorem fesV_at {E : List FE} {i : Nat} {u : Value} (h : (fesV E)[i]? = some u) : ∃ q, E[i / 2]? = some q ∧ u = (feE q)[i % 2]! := by
 have hi := (List.getElem?_eq_some_iff.1 h).1
 rw [fesV_len] at hi
 have hlt : i / 2 < E.length := by omega
 have hq : E[i / 2]? = some E[i / 2] := List.getElem?_eq_getElem hlt
 refine ⟨_, hq, ?_⟩
 obtain ⟨g0, g1⟩ := fesV_get hq
 rcases Nat.mod_two_eq_zero_or_one i with e | e
 ·rw [show i / 2 * 2 = i by omega, h] at g0
  rw [e, Option.some.inj g0]; rfl
 ·rw [show i / 2 * 2 + 1 = i by omega, h] at g1
  rw [e, Option.some.inj g1]; rfl
theorem fes_at {E : List FE} {i : Nat} (hi : i < E.length * 2) : ∃ q, E[i / 2]? = some q ∧ (fesV E)[i]? = some (feE q)[i % 2]! := by
 have hlt : i < (fesV E).length := by rw [fesV_len]; exact hi
 obtain ⟨q, h1, h2⟩ := fesV_at (List.getElem?_eq_getElem hlt)
 exact ⟨q, h1, by rw [← h2]; exact List.getElem?_eq_getElem hlt⟩
theorem arrF_get {E : List FE} {i : Nat} {q : FE} (h : E[i]? = some q) : E.toArray[i]! = q := by
 obtain ⟨hi, rfl⟩ := List.getElem?_eq_some_iff.1 h
 simp [hi]
theorem holdsF {w : World} {b o : Nat} {E : List FE} (h2 : ∀ i u, (fesV E)[i]? = some u → w.cell? ⟨b, o + i, none⟩ = some u) (h3 : ∀ i, i < E.length * 2 → w.frozen? ⟨b, o + i, none⟩ = false) : HoldsK feE 2 w b o E.toArray := by
 intro j hj
 rw [size_flatK] at hj
 have hj' : j < E.length * 2 := by simpa using hj
 obtain ⟨q, h4, h5⟩ := fes_at hj'
 refine ⟨?_, h3 j hj'⟩
 rw [get_flatK _ _ _ _ hj, arrF_get h4]
 exact h2 j _ h5
theorem cmpLF {blk off size : Nat} (w : World) : CmpLays Tryz.prog 49 #[] feE 2 cfF blk off size w := by
 intro m os dk _ x y
 refine (orderF_run x.1 x.2 y.1 y.2 _).mono ?_
 rintro e V ⟨rfl, h⟩
 exact ⟨rfl, h⟩
theorem sortF_run {w : World} {F : Foot} {a : Option Addr} {c : Nat} {E : List FE} (h : Sl w 2 F a E.length c (fesV E)) (hl : E.length ≤ 1000000) :
  Calls Tryz.prog 48 #[.slice a E.length c, .func (.func 49) #[] #[]] w fun e V =>
   e = .returned (.tuple #[]) ∧ ∃ E' : List FE, E'.Perm E ∧ E'.Pairwise (fun a b => ¬ Ky.cmpE b.1 b.2 a.1 a.2 < 0) ∧ Rd V 2 a E.length c (fesV E') ∧ Fr (fun k _ => ∃ o, F k o) w V := by
 by_cases h0 : E = []
 ·subst h0
  refine (AnyF.slices_SortFunc_none (ρ := sortFound_ren) { sortFound with } a c _ w).mono ?_
  rintro e V ⟨rfl, rfl⟩
  exact ⟨rfl, [], .refl _, List.Pairwise.nil, h.rd, Fr.refl _ _⟩
 ·have hpos : 0 < E.length := List.length_pos_iff.2 h0
  obtain ⟨b, o, rfl, hF, h2, h3⟩ := h.addr (by omega)
  have hle := h.le
  have hH : HoldsK feE 2 w b o E.toArray := holdsF h2 (fun i hi => (h3 i (by have := Nat.mul_le_mul_right 2 hle; omega)).2)
  have hblk : b < w.heap.size := by
   obtain ⟨q, _, hq⟩ := fes_at (E := E) (i := 0) (by omega)
   exact block_of_cell (h2 0 _ hq)
  have hs := AnyQ.slices_SortFunc (ρ := sortFound_ren) { sortFound with } 2 (by intro w; kernel_rfl) (by intro w; kernel_rfl) feE (fun _ => rfl) feE_one cfF swoF 49 #[] b o c E.toArray w
   (enters_any Tryz.func49 (by kernel_rfl) rfl) (cmpLF w) hH hblk (by simp; omega)
  refine Calls.mono hs ?_
  rintro e V ⟨rfl, d', n, os, ⟨hsz, _, hperm⟩, hsort, rfl⟩
  have hsz' : d'.size = E.length := by simpa using hsz
  have hp : d'.toList.Perm E := by
   have := hperm
   rw [show E.toArray.size = d'.size from hsz.symm] at this
   have e1 : List.take E.length d'.toList = d'.toList := List.take_of_length_le (by simp [hsz'])
   simp [hsz'] at this
   rwa [e1] at this
  have hHV := holdsK_sortWorldK feE 2 w b o n E.toArray d' os hblk hH hsz
  have hcell : ∀ i u, (fesV d'.toList)[i]? = some u → (sortWorldK feE 2 w b o n d' os).cell? ⟨b, o + i, none⟩ = some u := fun i u hu => by
   obtain ⟨q, hq, rfl⟩ := fesV_at hu
   have hi : i / 2 < d'.size := by have := (List.getElem?_eq_some_iff.1 hq).1; simpa using this
   have h4 := (hHV.cell hi (Nat.mod_lt i (by omega))).1
   rw [show o + i / 2 * 2 + i % 2 = o + i by omega] at h4
   rw [h4]
   have := arrF_get hq
   simp only [Array.toArray_toList] at this
   rw [this]
  refine ⟨rfl, d'.toList, hp, ?_, ⟨?_, hle, h.cap, (fun h => by cases h), fun x hx i u hu => ?_, fesV_one _⟩, (Fr.grown (sortW_grown feE 2 w b o n d' os)).mono (fun k _ e => ⟨o + 0, by have := Option.some.inj e; rw [← this]; exact hF 0 (by have := Nat.mul_le_mul_right 2 hle; omega)⟩)⟩
  ·rw [List.pairwise_iff_getElem]
   intro i j hi hj hij
   have e1 : d'[i]! = d'.toList[i] := by simp at hi; simp [hi]
   have e2 : d'[j]! = d'.toList[j] := by simp at hj; simp [hj]
   have h4 := hsort i j (Nat.zero_le _) hij (by simp at hj ⊢; omega)
   rw [e1, e2] at h4
   intro h5
   have h6 : ltOf cfF d'.toList[j] d'.toList[i] = true := by unfold ltOf cfF; simpa using h5
   rw [h6] at h4
   cases h4
  ·rw [fesV_len]; simp [hsz']
  ·cases hx
   rw [Addr.add_lit]
   exact hcell i u hu
end Bf
end Go.Proofs.YtecnijnmgdfdhaaGreat

namespace Go.Proofs.YtecnijnmgdfdhaaGreat
namespace Bf
open Go.RowKit Tr Tb
open Ky (less)
open Go.Maps (Keyed IsMap Tidy)
theorem infoFd : (Tryz.prog.info? 93).map (fun i => (i.zero, i.size, i.bytes)) = some (some (.agg #[.int .i64 0, .string ⟨#[]⟩]), 2, 24) := by kernel_rfl
theorem sizeFd (w : World) : (sizeOf (Tryz.prog.elem 90)).run Tryz.prog w = .ok 2 w := by kernel_rfl
theorem row_col {r : R4} {c : Nat} (hc : c < 4) : (r4V r)[c]? = some (.int .i64 (col r c)) := by
 have : c = 0 ∨ c = 1 ∨ c = 2 ∨ c = 3 := by omega
 rcases this with rfl | rfl | rfl | rfl <;> rfl
structure GoF (V2 : World) (Rr mb : Nat) (D : DataW Unit) (W : List Pr) (E : List FE) (pre : List Pr) (n k : Nat) (a : Option Addr) (cnt : Nat) (wr : World) : Prop where
 sl : ∃ F, Sl wr 2 F a n k (fesV E) ∧ Lies wr F ∧ ∀ b o, F b o → V2.heap.size ≤ b ∧ b ≠ Rr
 low : Below V2.heap.size V2 wr
 len : E.length = n
 adm : AdmW W pre
 rg : ∃ left, wr.ranges Tryz.prog 9 elP mb Rr W.length D left cnt ∧ ∀ p ∈ W, left (.string p.1) = !(pre.map Prod.fst).contains p.1
 rr : V2.heap.size ≤ Rr
 mm : mb < V2.heap.size
section
variable {V2 wr w1 : World} {Rr mb n k cnt : Nat} {D : DataW Unit} {W pre : List Pr} {E : List FE} {a : Option Addr} {pt : Str → Nat}
theorem GoF.start (hM : MapIs D pt W ∧ Sorted W ∧ OkW W) (hL : Loc 2 V2 wr a n k (fesV E)) (hn : E.length = n) (hg : wr.grownBy w1 none) (hr : w1.ranges Tryz.prog 9 elP mb wr.heap.size W.length D (Go.Maps.has D) (Go.Maps.size D)) (hm : mb < V2.heap.size) :
  GoF V2 wr.heap.size mb D W E [] n k a (Go.Maps.size D) w1 := by
 obtain ⟨F, h1, h2, h3, h4⟩ := hL
 have hf : Fr (fun _ _ => False) wr w1 := (Fr.grown hg).mono (fun _ _ h => by cases h)
 refine ⟨⟨F, h1.fr hf (fun _ _ _ h => h), h2.later hf, fun b o hb => ⟨h3 b o hb, fun e => ?_⟩⟩, h4.trans (hf.below h4.size (fun _ _ h => h.elim)), hn, AdmW.nil W, ⟨_, hr, fun p hp => ?_⟩, h4.size, hm⟩
 ·have := h2 b o hb; omega
 ·rw [hM.1.has, (mem_get hM.2.1).2 (show (p.1, p.2) ∈ W from hp)]; rfl
theorem GoF.next {v : Str} {x : Str} {left : Lit → Bool} {cnt1 : Nat} (h : GoF V2 Rr mb D W E pre n k a cnt wr) (hl : ∀ p ∈ W, left (.string p.1) = !(pre.map Prod.fst).contains p.1) (hm : (x, v) ∈ W) (hx : left (.string x) = true)
  (hg : wr.grownBy w1 (some Rr)) (hr : w1.ranges Tryz.prog 9 elP mb Rr W.length D (fun z => left z && !z.sameKey (.string x)) cnt1) : GoF V2 Rr mb D W E (pre ++ [(x, v)]) n k a cnt1 w1 := by
 obtain ⟨F, h1, h2, h3⟩ := h.sl
 have hf : Fr (fun b _ => b = Rr) wr w1 := (Fr.grown hg).mono (fun b _ e => (Option.some.inj e).symm)
 have hnot : x ∉ pre.map Prod.fst := by
  have h1 := hl _ hm
  rw [hx] at h1
  simpa using h1.symm
 refine ⟨⟨F, h1.fr hf (fun b o hb e => (h3 b o hb).2 e), h2.later hf, h3⟩, h.low.trans (hf.below h.low.size (fun b _ e => by rw [e]; exact h.rr)), h.len, h.adm.snoc hm hnot, ⟨_, hr, fun p hp => ?_⟩, h.rr, h.mm⟩
 rw [List.map_append, List.map_cons, List.map_nil, contains_snoc, Bool.not_or, ← hl p hp, ← same_str]
theorem GoF.app {F F' : Foot} {a' : Option Addr} {k' : Nat} {w2 w' : World} {e : FE} {E' : List FE} (h : GoF V2 Rr mb D W E pre n k a cnt wr) (h3 : ∀ b o, F b o → V2.heap.size ≤ b ∧ b ≠ Rr)
  (hb : Below wr.heap.size wr w2) (k1 : Sl w' 2 F' a' (n + 1) k' (fesV E')) (k2 : Fr F w2 w') (k3 : Grew w2 F F') (k4 : Lies w' F') (hE : E' = E ++ [e]) : GoF V2 Rr mb D W E' pre (n + 1) k' a' cnt w' := by
 have hf : Fr F wr w' := (Fr.ofBelow hb F).trans k2 (fun b o hb => .inl hb)
 obtain ⟨left, hr, hl⟩ := h.rg
 have hRr : Rr < wr.heap.size := hr.lt
 refine ⟨⟨F', k1, k4, fun b o hb' => ?_⟩, h.low.trans (hf.below h.low.size (fun b o hb => (h3 b o hb).1)), by rw [hE, List.length_append, h.len]; rfl, h.adm, ⟨left, ranges_fr hr hf (fun o hb => ?_) (fun o hb => (h3 _ _ hb).2 rfl), hl⟩, h.rr, h.mm⟩
 ·rcases k3 b o hb' with hF | hF
  ·exact h3 b o hF
  ·have := hb.size
   have := h.low.size
   exact ⟨by omega, by omega⟩
 ·have := (h3 _ _ hb).1
  have := h.mm
  omega
theorem GoF.left (h : GoF V2 Rr mb D W E pre n k a cnt wr) : wr.rangeLeft mb Rr = cnt := by
 obtain ⟨left, hr, _⟩ := h.rg
 exact hr.left_eq
theorem GoF.fin (hM : MapIs D pt W ∧ Sorted W ∧ OkW W) (h : GoF V2 Rr mb D W E pre n k a cnt wr) {left : Lit → Bool} (hl : ∀ p ∈ W, left (.string p.1) = !(pre.map Prod.fst).contains p.1) (h0 : ∀ z, left z = false) : pre.Perm W := by
 refine FinW.perm hM.2.1 ⟨h.adm, fun p hp => ?_⟩
 have h1 := hl p hp
 rw [h0] at h1
 have h2 : p.1 ∈ pre.map Prod.fst := by simpa using h1.symm
 obtain ⟨q, hq, he⟩ := List.mem_map.1 h2
 have h3 := (mem_get hM.2.1).2 (show (q.1, q.2) ∈ W from h.adm.2 q hq)
 have h4 := (mem_get hM.2.1).2 (show (p.1, p.2) ∈ W from hp)
 rw [he, h4] at h3
 have : p = q := Prod.ext he.symm (Option.some.inj h3)
 rw [this]; exact hq
end
section
variable {B : Nat} {w0 w V : World} {X Y : List Rs} {bb tb most o : Nat} {W L : List Pr}
set_option maxHeartbeats 16000000 in
set_option maxRecDepth 100000 in
theorem own_bufFind (c : Nat) (hc : c < 4) (lo hi : Int) (h1 : Ky.In lo) (h2 : Ky.In hi) (hl : ¬ hi < lo) (m : Nat) (hW : W.length ≤ 100000) (h : Own B w0 (BufR bb tb W :: TabR tb most o L :: X) w) :
  Calls Tryz.prog 18 #[ptrV bb, .int .i64 c, .int .i64 lo, .int .i64 hi, .int .i64 m] w fun e V => ∃ (a : Option Addr) (k : Nat), e = .returned (.tuple #[.slice a ((keysOf (hits c lo hi (overT W L))).take m).length k, .int .i64 0]) ∧
   Own B w0 (SlR 1 a ((keysOf (hits c lo hi (overT W L))).take m).length k (textsV ((keysOf (hits c lo hi (overT W L))).take m)) :: BufR bb tb W :: TabR tb most o L :: X) V := by
 obtain ⟨mb, pt, D, hM, hA⟩ := own_bufOpen h
 have hsL := own_tabSorted h.swap
 have okL := own_tabOk h.swap
 have hlenL : L.length ≤ 1024 := by have := okL.len; have := okL.hi; omega
 obtain ⟨i0, hi0, hz0, hz1, hz2⟩ := info_parts infoFd
 obtain ⟨iS, hiS, hs0, hs1, hs2⟩ := info_parts infoStr
 have hKL : (keysOf (hits c lo hi L)).length ≤ L.length := by
  unfold keysOf
  rw [List.length_map, hits_filter okL.ok c h1 h2, ← idx_len okL.ok hsL c]
  exact List.length_filter_le _ _
 have HLaw := Lib.hid (fun (xs : List Pr) (hx : xs.Perm W) (E : List FE) => find_law (W := W) (L := L) (c := c) hM.2.2 hM.2.1 okL.ok hsL h1 h2 hx (E := E))
 have HKey := Lib.hid (fun k => mem_keysOf (k := k) (c := c) okL.ok hsL h1 h2)
 obtain ⟨TT, hTT⟩ : ∃ TT, keysOf (hits c lo hi (overT W L)) = TT := ⟨_, rfl⟩
 rw [hTT] at HLaw ⊢
 have HF1 := Lib.hid (own_findR c hc lo hi h1 h2 hl m hA.swap)
 have HF2 : Hid (∀ V, Own B w0 (BufA bb tb mb pt D W :: TabR tb most o L :: X) V → Calls Tryz.prog 27 #[ptrV tb, .int .i64 c, .int .i64 lo, .int .i64 hi, .int .i64 L.length] V fun e V2 => ∃ (a : Option Addr) (k : Nat), e = .returned (.tuple #[.slice a (keysOf (hits c lo hi L)).length k, .int .i64 0]) ∧ Own B w0 (SlR 1 a (keysOf (hits c lo hi L)).length k (textsV (keysOf (hits c lo hi L))) :: TabR tb most o L :: BufA bb tb mb pt D W :: X) V2) := Lib.hid (fun V h => by
  have := own_findR c hc lo hi h1 h2 hl L.length h.swap
  rwa [List.take_of_length_le hKL] at this)
 have HLn : Hid (∀ V, Own B w0 (BufA bb tb mb pt D W :: TabR tb most o L :: X) V → Calls Tryz.prog 26 #[ptrV tb] V fun e V2 => e = .returned (.int .i64 L.length) ∧ V = V2) := Lib.hid (fun V h => own_tabLen h.swap)
 obtain ⟨KK, hK⟩ : ∃ KK, keysOf (hits c lo hi L) = KK := ⟨_, rfl⟩
 have HLaw2 : Hid (∀ xs : List Pr, xs.Perm W → ∀ E : List FE, E.Perm (KK.filterMap (fu W L c) ++ xs.filterMap (fw c lo hi)) → E.Pairwise (fun a b => 0 ≤ Ky.cmpE b.1 b.2 a.1 a.2) → E.map Prod.snd = TT) := Lib.hid (fun xs hx E hE hp => HLaw.out xs hx E (by unfold gath; rw [hK]; exact hE) (hp.imp (fun h => by omega)))
 rw [hK] at HF2 HKey hKL
 obtain ⟨N, hN⟩ : ∃ N, L.length = N := ⟨_, rfl⟩
 rw [hN] at HF2 HLn hKL hlenL
 have HM := Lib.hid hM
 have HWl : Hid (W.length ≤ 100000) := Lib.hid hW
 have HA := Lib.hid hA
 obtain ⟨⟨x0, x1⟩, _, _⟩ := own_bufAt hA
 have HSM := Lib.hid (And.intro hsL okL)
 have hc0 : (0 : Int) ≤ (c : Int) := by omega
 have hc1 : (c : Int) < 4 := by omega
 clear hTT HLaw hK hN hM hA hsL okL h h1 h2 hl
 go_enter Tryz.func18, Tryz.ntmps18
 go_wp2
 try go_step3
 go_wp2_with (go_at_call 27; refine HF1.out.mono ?_; rintro e V1 ⟨ua1, uk1, rfl, ho⟩; have HO1 := Lib.hid ho.drop.swap; clear ho)
 clear x0 x1
 obtain ⟨⟨x0, x1⟩, _, _⟩ := own_bufAt HO1.out
 refine wp_region_held_drew (S := (fun V => V.cell? ⟨bb, 0, none⟩ = some (ptrV tb))) (by kernel_rfl) x0 (fun hH0 => ?_)
 refine zzT (i := 0) (v := ?v0) rfl (by kernel_rfl) (fun _ _ _ h => h) ?h0 hH0 ?r0
 case h0 => (intro W h; (try dsimp only at h); go_simp; all_goals (with_reducible rfl))
 try simp only [zzA, zzB, zzC, Act.put, zzD, zzE, zzF]
 refine zzT (i := 1) (v := ?v1) rfl (by kernel_rfl) (fun _ _ _ h => h) ?h1 hH0 ?r1
 case h1 => (intro W h; (try dsimp only at h); go_simp; all_goals (with_reducible rfl))
 try simp only [zzA, zzB, zzC, Act.put, zzD, zzE, zzF]
 refine zzT (i := 2) (v := ?v2) rfl (by kernel_rfl) (fun _ _ _ h => h) ?h2 hH0 ?r2
 case h2 => (intro W h; (try dsimp only at h); go_simp; all_goals (with_reducible rfl))
 try simp only [zzA, zzB, zzC, Act.put, zzD, zzE, zzF]
 refine zzT (i := 3) (v := ?v3) rfl (by kernel_rfl) (fun _ _ _ h => h) ?h3 hH0 ?r3
 case h3 => (intro W h; (try dsimp only at h); go_simp; all_goals (with_reducible rfl))
 try simp only [zzA, zzB, zzC, Act.put, zzD, zzE, zzF]
 refine zzT (i := 4) (v := ?v4) rfl (by kernel_rfl) (fun _ _ _ h => h) ?h4 hH0 ?r4
 case h4 => (intro W h; (try dsimp only at h); go_simp; all_goals (with_reducible rfl))
 try simp only [zzA, zzB, zzC, Act.put, zzD, zzE, zzF]
 refine zzT (i := 5) (v := ?v5) rfl (by kernel_rfl) (fun _ _ _ h => h) ?h5 hH0 ?r5
 case h5 => (intro W h; (try dsimp only at h); go_simp; all_goals (with_reducible rfl))
 try simp only [zzA, zzB, zzC, Act.put, zzD, zzE, zzF]
 refine zzT (i := 6) (v := ?v6) rfl (by kernel_rfl) (fun _ _ _ h => h) ?h6 hH0 ?r6
 case h6 => (intro W h; (try dsimp only at h); go_simp; all_goals (with_reducible rfl))
 try simp only [zzA, zzB, zzC, Act.put, zzD, zzE, zzF]
 refine zzT (i := 7) (v := ?v7) rfl (by kernel_rfl) (fun _ _ _ h => h) ?h7 hH0 ?r7
 case h7 => (intro W h; (try dsimp only at h); go_simp; all_goals (with_reducible rfl))
 try simp only [zzA, zzB, zzC, Act.put, zzD, zzE, zzF]
 refine zzT (i := 8) (v := ?v8) rfl (by kernel_rfl) (fun _ _ _ h => h) ?h8 hH0 ?r8
 case h8 => (intro W h; (try dsimp only at h); go_simp; all_goals (with_reducible rfl))
 try simp only [zzA, zzB, zzC, Act.put, zzD, zzE, zzF]
 refine zzT (i := 9) (v := ?v9) rfl (by kernel_rfl) (fun _ _ _ h => h) ?h9 hH0 ?r9
 case h9 => (intro W h; (try dsimp only at h); go_simp; all_goals (with_reducible rfl))
 try simp only [zzA, zzB, zzC, Act.put, zzD, zzE, zzF]
 refine zzT (i := 10) (v := ?v10) rfl (by kernel_rfl) (fun _ _ _ h => h) ?h10 hH0 ?r10
 case h10 => (intro W h; (try dsimp only at h); go_simp; all_goals (with_reducible rfl))
 try simp only [zzA, zzB, zzC, Act.put, zzD, zzE, zzF]
 refine wpAnyH_ready (rs := [11]) (by kernel_rfl) (by simp) ?_
 refine AllReadyH.cons rfl (fun K hK => ?_) AllReadyH.nil
 simp only [zzA, zzB, zzC]
 go_simp
 (go_at_call 26; refine (HLn.out _ (HO1.out.later (below_drewN V1 1))).mono ?_; rintro e V1b ⟨rfl, rfl⟩)
 refine hK.out _ _ (hH0) (fun hH1 => ?_)
 clear hK K hH0
 try simp only [zzA, zzB, zzC, Act.put, zzD, zzE, zzF]
 refine wpAnyH_ready (rs := [12]) (by kernel_rfl) (by simp) ?_
 refine AllReadyH.cons rfl (fun K hK => ?_) AllReadyH.nil
 simp only [zzA, zzB, zzC]
 go_simp
 (go_at_call 27; refine (HF2.out _ (HO1.out.later (below_drewN V1 1))).mono ?_; rintro e V2 ⟨ua, uk, rfl, h2⟩; have HO2 := Lib.hid h2; clear h2)
 refine hK.out _ _ ((own_bufAtM HO2.out (bb := bb) (tb := tb) (mb := mb) (pt := pt) (D := D) (W := W) (by simp)).1.1) (fun hH2 => ?_)
 clear hK K hH1
 try simp only [zzA, zzB, zzC, Act.put, zzD, zzE, zzF]
 refine zzT (i := 13) (v := ?v13) rfl (by kernel_rfl) (fun _ _ _ h => h) ?h13 hH2 ?r13
 case h13 => (intro W h; (try dsimp only at h); go_simp; all_goals (with_reducible rfl))
 try simp only [zzA, zzB, zzC, Act.put, zzD, zzE, zzF]
 refine zzT (i := 14) (v := ?v14) rfl (by kernel_rfl) (fun _ _ _ h => h) ?h14 hH2 ?r14
 case h14 => (intro W h; (try dsimp only at h); go_simp; all_goals (with_reducible rfl))
 try simp only [zzA, zzB, zzC, Act.put, zzD, zzE, zzF]
 refine zzT (i := 15) (v := ?v15) rfl (by kernel_rfl) (fun _ _ _ h => h) ?h15 hH2 ?r15
 case h15 => (intro W h; (try dsimp only at h); go_simp; all_goals (with_reducible rfl))
 try simp only [zzA, zzB, zzC, Act.put, zzD, zzE, zzF]
 refine zzT (i := 16) (v := ?v16) rfl (by kernel_rfl) (fun _ _ _ h => h) ?h16 hH2 ?r16
 case h16 => (intro W h; (try dsimp only at h); go_simp; all_goals (with_reducible rfl))
 try simp only [zzA, zzB, zzC, Act.put, zzD, zzE, zzF]
 refine zzT (i := 17) (v := ?v17) rfl (by kernel_rfl) (fun _ _ _ h => h) ?h17 hH2 ?r17
 case h17 => (intro W h; (try dsimp only at h); go_simp; all_goals (with_reducible rfl))
 try simp only [zzA, zzB, zzC, Act.put, zzD, zzE, zzF]
 refine wpAnyH_done (by kernel_rfl) ?_ _
 clear x0 x1
 go_wp2
 try go_step3
 go_wp2
 go_loopw [16, 66] (fun s i wr => ∃ (j n k : Nat) (a : Option Addr), j ≤ KK.length ∧ n ≤ j ∧ i = .int .i64 j ∧ s = .slice a n k ∧ Hid (((KK.take j).filterMap (fu W L c)).length = n ∧ Loc 2 V2 wr a n k (fesV ((KK.take j).filterMap (fu W L c))))) (fun _ i _ => KK.length - (intOf i).toNat)
 case atStart => exact ⟨0, 0, 0, none, by omega, by omega, rfl, rfl, Lib.hid ⟨rfl, Loc.start 2 V2 V2 (Below.refl _ _)⟩⟩
 case round =>
  obtain ⟨j, n, k, a, hj, hnj, rfl, rfl, HJ⟩ := hrel
  have j0 : (0 : Int) ≤ (j : Int) := by omega
  have hO := HO2.out.later HJ.out.2.low
  obtain ⟨⟨x0, x1⟩, hown, _⟩ := own_bufAtM hO (bb := bb) (tb := tb) (mb := mb) (pt := pt) (D := D) (W := W) (by simp)
  by_cases hlt : j < KK.length
  ·have j1 : (j : Int) < (KK.length : Int) := by omega
   obtain ⟨key, hx⟩ : ∃ key, KK[j]? = some key := ⟨_, List.getElem?_eq_getElem hlt⟩
   obtain ⟨ub, uo, rfl, u0⟩ := text_at (own_rd hO) hx
   have hrdc := (own_rd hO).cap
   have hrdl := (own_rd hO).le
   obtain ⟨s, hs, _⟩ := (HKey.out key).1 (List.mem_of_getElem? hx)
   have hok : Ks.okKey key = true := (HSM.out.2.ok _ ((mem_get HSM.out.1).1 hs)).1
   have hkl : key.length ≤ 1000000 := by unfold Ks.okKey at hok; simp at hok; omega
   have hlk := look_run (k := key) HM.out.1 hown hkl
   obtain ⟨pv, hpv⟩ : ∃ pv, ptrO (atC pt key W) = pv := ⟨_, rfl⟩
   rw [hpv] at hlk
   have HSt := Lib.hid (fm_take (fu W L c) hx)
   cases hg : get key W with
   | some v =>
    have HN : Hid (fu W L c key = none) := Lib.hid (by unfold fu; rw [hg])
    rw [hg] at hlk
    simp only [Option.isSome_some] at hlk
    clear hs hok hkl hpv hg hx hO hown
    go_wp2
    go_roundw
    case rel => exact ⟨j + 1, n, k, a, by omega, by omega, by go_num, rfl, by rw [HSt.out, HN.out, Option.toList_none, List.append_nil]; exact HJ⟩
    case measure => simp [intOf]; omega
   | none =>
    have HG := Lib.hid (own_tabGet key hO.swap)
    rw [(row_some hok hs).2] at HG
    obtain ⟨⟨g0, g1, g2, g3⟩, hgr⟩ : ∃ g, getR key L = g := ⟨_, rfl⟩
    obtain ⟨v, hv⟩ : ∃ v, col (g0, g1, g2, g3) c = v := ⟨_, rfl⟩
    have HN : Hid (fu W L c key = some (v, key)) := Lib.hid (by unfold fu; rw [hg]; show some (col (getR key L) c, key) = _; rw [hgr, hv])
    rw [hgr] at HG
    simp only [rowW] at HG
    have HZ : Hid (∀ U : World, (U.alloc (.cells #[.int .i64 g0, .int .i64 g1, .int .i64 g2, .int .i64 g3] 41)).cell? ⟨U.heap.size, c, none⟩ = some (.int .i64 v)) := Lib.hid (fun U => by
     have := own_cellM (own_newRow (Own.nil U) (g0, g1, g2, g3) 41) (P := U.heap.size) (vs := r4V (g0, g1, g2, g3)) (i := c) (by simp) (row_col hc)
     rw [hv] at this
     exact this.1)
    rw [hg] at hlk
    simp only [Option.isSome_none] at hlk
    obtain ⟨E1, hE1⟩ : ∃ E1, (KK.take j).filterMap (fu W L c) = E1 := ⟨_, rfl⟩
    rw [hE1] at HJ HSt
    have HE : Hid ((KK.take (j + 1)).filterMap (fu W L c) = E1 ++ [(v, key)]) := Lib.hid (by rw [HSt.out, HN.out]; rfl)
    clear hs hok hkl hpv hg hx hO hown hgr hv hE1
    go_wp2_with (first
     | (go_at_call 29; refine HG.out.mono ?_; rintro e V3 ⟨rfl, hb⟩; have H3 := Lib.hid (HJ.out.2.later (hb.trans ((al1 V3 (.cells #[.int .i64 g0, .int .i64 g1, .int .i64 g2, .int .i64 g3] 41)).mono hb.size))); have z0 := HZ.out V3; obtain ⟨V4, hV4⟩ : ∃ V4, V3.alloc (.cells #[.int .i64 g0, .int .i64 g1, .int .i64 g2, .int .i64 g3] 41) = V4 := ⟨_, rfl⟩; rw [hV4] at H3 z0; clear hb)
     | (at_builtin; refine wpList_app_loc rfl (.tmp 91) (.tmp 97) 90 rfl 93 i0 _ 2 24 Tryz.underlying90 hi0 hz0 hz1 hz2 rfl (by decide) V2 a n k (fesV E1) rfl (H3.out.later (al1 V4 _)) (some ⟨V4.heap.size, 0, none⟩) 1 1 (fesV [(v, key)]) rfl (Rd.made V4 [.int .i64 v, .string ⟨key.toArray⟩] 93 2 1 rfl (by decide) (fun x hx => by simp at hx; rcases hx with rfl | rfl <;> rfl) (0, 0)) (n + 1) (fesV (E1 ++ [(v, key)])) rfl (fesV_app _ _).symm (by unfold maxLen; omega) (by omega) ?_; intro a1 k1 w1 hL; have H4 := Lib.hid hL; clear hL))
    go_roundw
    case rel =>
     refine ⟨j + 1, n + 1, k1, a1, by omega, by omega, by go_num, rfl, Lib.hid ?_⟩
     rw [HE.out]
     exact ⟨by simp [HJ.out.1], H4.out⟩
    case measure => simp [intOf]; omega
  ·obtain rfl : j = KK.length := by omega
   have j1 : ¬ (KK.length : Int) < (KK.length : Int) := by omega
   rw [List.take_length] at HJ
   obtain ⟨E1, hE1⟩ : ∃ E1, KK.filterMap (fu W L c) = E1 := ⟨_, rfl⟩
   rw [hE1] at HJ HLaw2
   have hmb : mb < V2.heap.size := (own_bufAtM HO2.out (bb := bb) (tb := tb) (mb := mb) (pt := pt) (D := D) (W := W) (by simp)).2.1.lt
   obtain ⟨Rr, hRr⟩ : ∃ Rr, wr.heap.size = Rr := ⟨_, rfl⟩
   clear hE1
   go_wp2_with (first
    | (at_range; refine wpList_range_own _ rfl _ 86 rfl 9 89 kLaw Tryz.underlying86 _ mb W.length D rfl hown ?_; intro w5 hrg0 hg0 hs0)
    | go_in)
   have HG0 := Lib.hid (GoF.start HM.out HJ.out.2 HJ.out.1 hg0 hrg0 hmb)
   clear hrg0 hg0 hs0 hown x0 x1 hO
   rw [hRr] at HG0
   try simp only [hRr]
   clear hRr
   try go_frame
   go_loopw [16] (fun s wr => ∃ (pre : List Pr) (n k cnt : Nat) (a : Option Addr), s = .slice a n k ∧ Hid (GoF V2 Rr mb D W (E1 ++ pre.filterMap (fw c lo hi)) pre n k a cnt wr)) (fun _ wr => wr.rangeLeft mb Rr)
   case atStart => exact ⟨[], n, k, _, a, rfl, by simpa using HG0⟩
   case round =>
    obtain ⟨pre, n, k, cnt, a, rfl, HJ2⟩ := hrel
    obtain ⟨left, hrg, hleft⟩ := HJ2.out.rg
    have HLe := Lib.hid hleft
    clear hleft
    go_wp2_with (first
     | (at_next; refine wpList_next_ranges _ rfl _ rfl 9 kLaw elP (fun x : Str => .string ⟨x.toArray⟩) ptrO invK invV mb Rr W.length D left cnt rfl hrg ?_ ?_)
     | go_in)
    ·intro _ hl0
     have HPm := Lib.hid (HJ2.out.fin HM.out HLe.out hl0)
     have hnl := HJ2.out.len
     obtain ⟨E, hE⟩ : ∃ E, E1 ++ pre.filterMap (fw c lo hi) = E := ⟨_, rfl⟩
     have HLaw3 : Hid (∀ E' : List FE, E'.Perm E → E'.Pairwise (fun a b => 0 ≤ Ky.cmpE b.1 b.2 a.1 a.2) → E'.map Prod.snd = TT) := Lib.hid (fun E' hp hs => HLaw2.out pre HPm.out E' (by rw [hE]; exact hp) hs)
     rw [hE] at HJ2 hnl
     have hEn : E.length ≤ 101024 := by
      rw [← hE, List.length_append]
      have h1 := List.length_filterMap_le (fw c lo hi) pre
      have h2 := HJ2.out.adm.len
      have h3 := HWl.out
      have h4 := HJ.out.1
      omega
     obtain ⟨F, hs1, hs2, hs3⟩ := HJ2.out.sl
     have HSrt := Lib.hid (sortF_run (a := a) (c := k) (E := E) (by rw [hnl]; exact hs1) (by omega))
     rw [hnl] at HSrt hEn
     have HSl := Lib.hid hs3
     clear hl0 hrg hs1 hs2 hs3 hE
     by_cases hmn0 : m ≤ n
     ·have hmn : m ≤ n := by omega
      have km : min (m : Int) (n : Int) = (m : Int) := by omega
      have hsl := fun w => run_slice_to (P := Tryz.prog) 90 (by kernel_rfl) 2 sizeFd a n k .i64 (m : Int) m rfl (by have := HJ2.out.sl; obtain ⟨F, h, _⟩ := this; have := h.le; omega) w
      have HNl := Lib.hid hnl
      go_wp2_with (go_at_call 48; refine HSrt.out.mono ?_; rintro e V6 ⟨rfl, E', hp, hso, hrd, hfr⟩; have HS6 := Lib.hid (And.intro (HLaw3.out E' hp (hso.imp (fun h => by omega))) (And.intro hrd (And.intro (hfr.below (B := V2.heap.size) HJ2.out.low.size (fun b o hb => by obtain ⟨o2, ho2⟩ := hb; exact (HSl.out _ _ ho2).1)) hp.length_eq))); clear hp hso hrd hfr)
      go_loopw [25, 149] (fun s i wr => ∃ (j k2 : Nat) (a2 : Option Addr), j ≤ m ∧ i = .int .i64 j ∧ s = .slice a2 j k2 ∧ Hid (Loc 1 V6 wr a2 j k2 (textsV (TT.take j)))) (fun _ i _ => m - (intOf i).toNat)
      case atStart => exact ⟨0, 0, none, by omega, rfl, rfl, Lib.hid (Loc.start 1 V6 V6 (Below.refl _ _))⟩
      case round =>
       obtain ⟨j, k2, a2, hj, rfl, rfl, HJ3⟩ := hrel
       have j0 : (0 : Int) ≤ (j : Int) := by omega
       by_cases hlt : j < m
       ·have j1 : (j : Int) < (m : Int) := by omega
        have hrd := HS6.out.2.1.later HJ3.out.low
        obtain ⟨⟨v, key⟩, hx⟩ : ∃ e, E'[j]? = some e := ⟨_, List.getElem?_eq_getElem (by have := HS6.out.2.2.2; omega)⟩
        obtain ⟨f0, f1⟩ := fesV_get hx
        obtain ⟨fb, fo, rfl, hfc⟩ := hrd.addr (by intro e; rw [e] at f0; simp at f0)
        have y0 := hfc _ _ f0
        have y1 := hfc _ _ f1
        rw [← Nat.add_assoc] at y1
        have hTj : TT[j]? = some key := by rw [← HS6.out.1, List.getElem?_map, hx]; rfl
        have HT : Hid (TT.take (j + 1) = TT.take j ++ [key]) := Lib.hid (by rw [List.take_add_one, hTj]; rfl)
        clear hrd hx f0 f1 hfc hTj
        obtain ⟨wa, hwa⟩ : ∃ wa, wr.alloc (.cells #[.int .i64 v, .string ⟨key.toArray⟩] 93) = wa := ⟨_, rfl⟩
        have y2 : wa.cell? ⟨wr.heap.size, 1, none⟩ = some (.string ⟨key.toArray⟩) := by rw [← hwa]; simp
        have HWa : Hid (Loc 1 V6 wa a2 j k2 (textsV (TT.take j))) := Lib.hid (by rw [← hwa]; exact HJ3.out.later (al1 wr _))
        go_wp2_with (at_builtin; refine wpList_app_loc rfl (.tmp 153) (.tmp 156) 53 rfl 9 iS _ 1 16 Tryz.underlying53 hiS hs0 hs1 hs2 rfl (by decide) V6 a2 j k2 (textsV (TT.take j)) rfl (HWa.out.later (al1 wa _)) (some ⟨wa.heap.size, 0, none⟩) 1 1 [.string ⟨key.toArray⟩] rfl (Rd.oneNew wa _ _ rfl) (j + 1) (textsV (TT.take (j + 1))) rfl (by rw [HT.out]; simp [textsV]) (by unfold maxLen; omega) (by omega) ?_; intro a3 k3 w3 hL; have H4 := Lib.hid hL; clear hL)
        go_roundw
        case rel => exact ⟨j + 1, k3, a3, by omega, by go_num, rfl, H4⟩
        case measure => simp [intOf]; omega
       ·obtain rfl : m = j := by omega
        have j1 : ¬ (m : Int) < (m : Int) := by omega
        go_wp2
        (try rw [Exit.noGoto_ret])
        go_ret2
        have hTl : TT.length = n := by rw [← HS6.out.1, List.length_map, HS6.out.2.2.2]; exact HNl.out
        have hlen : (TT.take m).length = m := by rw [List.length_take, hTl]; omega
        have hTk : TT.take m = TT.take m := rfl
        rw [hTk, hlen]
        have h6 := own_loc (HO2.out.later (HJ2.out.low.trans HS6.out.2.2.1)) HJ3.out
        refine ⟨a2, k2, rfl, ?_⟩
        have h7 := h6.perm (List.perm_middle (l₁ := [SlR 1 a2 m k2 (textsV (TT.take m)), SlR 1 ua KK.length uk (textsV KK), TabR tb most o L]))
        have h8 := own_bufClose HM.out h7
        exact h8.swap.third.drop
     ·have hmn : n ≤ n := by omega
      have km : min (m : Int) (n : Int) = (n : Int) := by omega
      have hsl := fun w => run_slice_to (P := Tryz.prog) 90 (by kernel_rfl) 2 sizeFd a n k .i64 (n : Int) n rfl (by have := HJ2.out.sl; obtain ⟨F, h, _⟩ := this; have := h.le; omega) w
      have HNl := Lib.hid hnl
      go_wp2_with (go_at_call 48; refine HSrt.out.mono ?_; rintro e V6 ⟨rfl, E', hp, hso, hrd, hfr⟩; have HS6 := Lib.hid (And.intro (HLaw3.out E' hp (hso.imp (fun h => by omega))) (And.intro hrd (And.intro (hfr.below (B := V2.heap.size) HJ2.out.low.size (fun b o hb => by obtain ⟨o2, ho2⟩ := hb; exact (HSl.out _ _ ho2).1)) hp.length_eq))); clear hp hso hrd hfr)
      go_loopw [25, 149] (fun s i wr => ∃ (j k2 : Nat) (a2 : Option Addr), j ≤ n ∧ i = .int .i64 j ∧ s = .slice a2 j k2 ∧ Hid (Loc 1 V6 wr a2 j k2 (textsV (TT.take j)))) (fun _ i _ => n - (intOf i).toNat)
      case atStart => exact ⟨0, 0, none, by omega, rfl, rfl, Lib.hid (Loc.start 1 V6 V6 (Below.refl _ _))⟩
      case round =>
       obtain ⟨j, k2, a2, hj, rfl, rfl, HJ3⟩ := hrel
       have j0 : (0 : Int) ≤ (j : Int) := by omega
       by_cases hlt : j < n
       ·have j1 : (j : Int) < (n : Int) := by omega
        have hrd := HS6.out.2.1.later HJ3.out.low
        obtain ⟨⟨v, key⟩, hx⟩ : ∃ e, E'[j]? = some e := ⟨_, List.getElem?_eq_getElem (by have := HS6.out.2.2.2; omega)⟩
        obtain ⟨f0, f1⟩ := fesV_get hx
        obtain ⟨fb, fo, rfl, hfc⟩ := hrd.addr (by intro e; rw [e] at f0; simp at f0)
        have y0 := hfc _ _ f0
        have y1 := hfc _ _ f1
        rw [← Nat.add_assoc] at y1
        have hTj : TT[j]? = some key := by rw [← HS6.out.1, List.getElem?_map, hx]; rfl
        have HT : Hid (TT.take (j + 1) = TT.take j ++ [key]) := Lib.hid (by rw [List.take_add_one, hTj]; rfl)
        clear hrd hx f0 f1 hfc hTj
        obtain ⟨wa, hwa⟩ : ∃ wa, wr.alloc (.cells #[.int .i64 v, .string ⟨key.toArray⟩] 93) = wa := ⟨_, rfl⟩
        have y2 : wa.cell? ⟨wr.heap.size, 1, none⟩ = some (.string ⟨key.toArray⟩) := by rw [← hwa]; simp
        have HWa : Hid (Loc 1 V6 wa a2 j k2 (textsV (TT.take j))) := Lib.hid (by rw [← hwa]; exact HJ3.out.later (al1 wr _))
        go_wp2_with (at_builtin; refine wpList_app_loc rfl (.tmp 153) (.tmp 156) 53 rfl 9 iS _ 1 16 Tryz.underlying53 hiS hs0 hs1 hs2 rfl (by decide) V6 a2 j k2 (textsV (TT.take j)) rfl (HWa.out.later (al1 wa _)) (some ⟨wa.heap.size, 0, none⟩) 1 1 [.string ⟨key.toArray⟩] rfl (Rd.oneNew wa _ _ rfl) (j + 1) (textsV (TT.take (j + 1))) rfl (by rw [HT.out]; simp [textsV]) (by unfold maxLen; omega) (by omega) ?_; intro a3 k3 w3 hL; have H4 := Lib.hid hL; clear hL)
        go_roundw
        case rel => exact ⟨j + 1, k3, a3, by omega, by go_num, rfl, H4⟩
        case measure => simp [intOf]; omega
       ·obtain rfl : n = j := by omega
        have j1 : ¬ (n : Int) < (n : Int) := by omega
        go_wp2
        (try rw [Exit.noGoto_ret])
        go_ret2
        have hTl : TT.length = n := by rw [← HS6.out.1, List.length_map, HS6.out.2.2.2]; exact HNl.out
        have hlen : (TT.take n).length = n := by rw [List.length_take, hTl]; omega
        have hTk : TT.take m = TT.take n := by rw [List.take_of_length_le (by omega), List.take_of_length_le (by omega)]
        rw [hTk, hlen]
        have h6 := own_loc (HO2.out.later (HJ2.out.low.trans HS6.out.2.2.1)) HJ3.out
        refine ⟨a2, k2, rfl, ?_⟩
        have h7 := h6.perm (List.perm_middle (l₁ := [SlR 1 a2 n k2 (textsV (TT.take n)), SlR 1 ua KK.length uk (textsV KK), TabR tb most o L]))
        have h8 := own_bufClose HM.out h7
        exact h8.swap.third.drop
    ·intro x c2 kl yd yp w1 cnt1 hk hlx hy hat hrg1 hlt hg1 hs1 hen
     obtain ⟨rfl, v, hv, rfl⟩ := came (y := (yd, yp)) HM.out.1 hk hy hat
     have hmem : (x, v) ∈ W := (mem_get HM.out.2.1).1 hv
     have HX1 := Lib.hid (HJ2.out.next HLe.out hmem hlx hg1 hrg1)
     have HLt := Lib.hid hlt
     have HLf := Lib.hid HJ2.out.left
     have hn2 : n ≤ 101024 := by
      have h0 := HJ2.out.len
      rw [List.length_append] at h0
      have h1 := List.length_filterMap_le (fw c lo hi) pre
      have h2 := HJ2.out.adm.len
      have h3 := HWl.out
      have h4 := HJ.out.1
      omega
     have hO1 := HO2.out.later HX1.out.low
     obtain ⟨_, _, hrow⟩ := own_bufAtM hO1 (bb := bb) (tb := tb) (mb := mb) (pt := pt) (D := D) (W := W) (by simp)
     have hrow := hrow x
     rw [hv] at hrow
     clear hk hlx hy hat hrg1 hlt hg1 hs1 hrg hO1 hv
     cases v with
     | nil =>
      have hen2 : (Instr.entry (.pointer (some ⟨Rr, 0, none⟩))).run Tryz.prog w1 = .ok (.tuple #[.string ⟨x.toArray⟩, .pointer none]) w1 := hen
      have HEq : Hid ((pre ++ [(x, [])]).filterMap (fw c lo hi) = pre.filterMap (fw c lo hi)) := Lib.hid (by rw [fm_snoc]; simp [fw])
      clear hen hrow hmem
      simp only [ptrO, elC, Option.map_none, Option.map_some]
      go_wp2
      go_roundw
      case rel => exact ⟨pre ++ [(x, [])], n, k, cnt1, a, rfl, by rw [HEq.out]; exact HX1⟩
      case measure => rw [HX1.out.left, HLf.out]; exact HLt.out
     | cons b s =>
      have hen2 : (Instr.entry (.pointer (some ⟨Rr, 0, none⟩))).run Tryz.prog w1 = .ok (.tuple #[.string ⟨x.toArray⟩, .pointer (some ⟨pt x, 0, none⟩)]) w1 := hen
      have z0 := hrow b s rfl c hc
      obtain ⟨v, hv⟩ : ∃ v, col (decT s) c = v := ⟨_, rfl⟩
      rw [hv] at z0
      clear hen hrow hmem
      simp only [ptrO, elC, Option.map_none, Option.map_some]
      by_cases hlo : lo ≤ v
      ·have dlo : decide (lo ≤ v) = true := by simpa using hlo
       by_cases hhi : v ≤ hi
       ·have dhi : decide (v ≤ hi) = true := by simpa using hhi
        have HEq : Hid ((pre ++ [(x, b :: s)]).filterMap (fw c lo hi) = pre.filterMap (fw c lo hi) ++ [(v, x)]) := Lib.hid (by rw [fm_snoc]; simp [fw, hv, hlo, hhi])
        obtain ⟨F, hs1, hs2, hs3⟩ := HX1.out.sl
        have HSl := Lib.hid (And.intro hs1 (And.intro hs2 hs3))
        clear hs1 hs2 hs3 hv
        go_wp2_with (at_builtin; refine wpList_app_sl rfl (.tmp 130) (.tmp 138) 90 rfl 93 i0 _ 2 24 Tryz.underlying90 hi0 hz0 hz1 hz2 rfl (by decide) F a n k (fesV (E1 ++ pre.filterMap (fw c lo hi))) rfl (HSl.out.1.laid _) (HSl.out.2.1.laid _) (some ⟨w1.heap.size, 0, none⟩) 1 1 (fesV [(v, x)]) rfl (Rd.made w1 [.int .i64 v, .string ⟨x.toArray⟩] 93 2 1 rfl (by decide) (fun x hx => by simp at hx; rcases hx with rfl | rfl <;> rfl) (0, 0)) (n + 1) (fesV ((E1 ++ pre.filterMap (fw c lo hi)) ++ [(v, x)])) rfl (fesV_app _ _).symm (by unfold maxLen; omega) (by omega) ?_; intro a1 k1 w2 F' q1 q2 q3 q4; have H4 := Lib.hid (HX1.out.app (e := (v, x)) HSl.out.2.2 (al1 w1 _) q1 q2 q3 q4 rfl); clear q1 q2 q3 q4)
        go_roundw
        case rel => exact ⟨pre ++ [(x, b :: s)], n + 1, k1, cnt1, a1, rfl, by rw [HEq.out, ← List.append_assoc]; exact H4⟩
        case measure => rw [H4.out.left, HLf.out]; exact HLt.out
       ·have dhi : decide (v ≤ hi) = false := by simpa using hhi
        have HEq : Hid ((pre ++ [(x, b :: s)]).filterMap (fw c lo hi) = pre.filterMap (fw c lo hi)) := Lib.hid (by rw [fm_snoc]; simp [fw, hv, hhi])
        clear hv
        go_wp2
        go_roundw
        case rel => exact ⟨pre ++ [(x, b :: s)], n, k, cnt1, a, rfl, by rw [HEq.out]; exact HX1⟩
        case measure => rw [HX1.out.left, HLf.out]; exact HLt.out
      ·have dlo : decide (lo ≤ v) = false := by simpa using hlo
       have HEq : Hid ((pre ++ [(x, b :: s)]).filterMap (fw c lo hi) = pre.filterMap (fw c lo hi)) := Lib.hid (by rw [fm_snoc]; simp [fw, hv, hlo])
       clear hv
       go_wp2
       go_roundw
       case rel => exact ⟨pre ++ [(x, b :: s)], n, k, cnt1, a, rfl, by rw [HEq.out]; exact HX1⟩
       case measure => rw [HX1.out.left, HLf.out]; exact HLt.out
end
end Bf
end Go.Proofs.YtecnijnmgdfdhaaGreat

namespace Go.Proofs.YtecnijnmgdfdhaaGreat
namespace Bf
open Go.RowKit Tr Tb
open Ky (less)
def findE (c lo hi m : Int) : Int := if c < 0 ∨ 3 < c ∨ hi < lo then 10 else if m < 0 then 23 else 0
def findK (c lo hi m : Int) (L : List Pr) : List Str := if findE c lo hi m = 0 then (keysOf (hits c.toNat lo hi L)).take m.toNat else []
theorem findE_cases (c lo hi m : Int) : (findE c lo hi m = 10 ∧ (c < 0 ∨ 3 < c ∨ hi < lo)) ∨ (findE c lo hi m = 23 ∧ 0 ≤ c ∧ c ≤ 3 ∧ lo ≤ hi ∧ m < 0) ∨ (findE c lo hi m = 0 ∧ 0 ≤ c ∧ c ≤ 3 ∧ lo ≤ hi ∧ 0 ≤ m) := by
 unfold findE
 by_cases h : c < 0 ∨ 3 < c ∨ hi < lo
 ·exact .inl ⟨if_pos h, h⟩
 ·rw [if_neg h]
  by_cases hm : m < 0
  ·exact .inr (.inl ⟨if_pos hm, by omega, by omega, by omega, hm⟩)
  ·exact .inr (.inr ⟨if_neg hm, by omega, by omega, by omega, by omega⟩)
section
variable {B : Nat} {w0 w V : World} {X Y : List Rs} {bb tb most o : Nat} {W L : List Pr}
theorem own_findAll (c lo hi m : Int) (h1 : Ky.In lo) (h2 : Ky.In hi) (h : Own B w0 (TabR tb most o L :: X) w) :
  Calls Tryz.prog 27 #[ptrV tb, .int .i64 c, .int .i64 lo, .int .i64 hi, .int .i64 m] w fun e V => ∃ (a : Option Addr) (k : Nat), e = .returned (.tuple #[.slice a (findK c lo hi m L).length k, .int .i64 (findE c lo hi m)]) ∧
   Own B w0 (SlR 1 a (findK c lo hi m L).length k (textsV (findK c lo hi m L)) :: TabR tb most o L :: X) V := by
 have bad : ∀ code : Int, findE c lo hi m = code → code ≠ 0 → (Calls Tryz.prog 27 #[ptrV tb, .int .i64 c, .int .i64 lo, .int .i64 hi, .int .i64 m] w fun e V => e = .returned (.tuple #[.slice none 0 0, .int .i64 code]) ∧ Below w.heap.size w V) →
   Calls Tryz.prog 27 #[ptrV tb, .int .i64 c, .int .i64 lo, .int .i64 hi, .int .i64 m] w fun e V => ∃ (a : Option Addr) (k : Nat), e = .returned (.tuple #[.slice a (findK c lo hi m L).length k, .int .i64 (findE c lo hi m)]) ∧
   Own B w0 (SlR 1 a (findK c lo hi m L).length k (textsV (findK c lo hi m L)) :: TabR tb most o L :: X) V := fun code e hne hc => by
  have hk : findK c lo hi m L = [] := by unfold findK; rw [if_neg (by rw [e]; exact hne)]
  rw [hk, e]
  refine hc.mono ?_
  rintro e2 V ⟨rfl, hb⟩
  exact ⟨none, 0, rfl, own_nilSl (h.later hb) 1⟩
 rcases findE_cases c lo hi m with ⟨e, hx⟩ | ⟨e, c0, c3, hl, hm⟩ | ⟨e, c0, c3, hl, hm⟩
 ·by_cases hc : c < 0 ∨ 3 < c
  ·exact bad 10 e (by omega) (findTb_col tb c lo hi m (by omega) w)
  ·obtain ⟨n, rfl⟩ : ∃ n : Nat, c = n := ⟨c.toNat, by omega⟩
   exact bad 10 e (by omega) (findTb_bad tb n (by omega) lo hi m (by omega) w)
 ·obtain ⟨n, rfl⟩ : ∃ n : Nat, c = n := ⟨c.toNat, by omega⟩
  exact bad 23 e (by omega) (findTb_neg tb n (by omega) lo hi m h1 h2 (by omega) hm w)
 ·obtain ⟨n, rfl⟩ : ∃ n : Nat, c = n := ⟨c.toNat, by omega⟩
  obtain ⟨k, rfl⟩ : ∃ k : Nat, m = k := ⟨m.toNat, by omega⟩
  have hk : findK (n : Int) lo hi (k : Int) L = (keysOf (hits n lo hi L)).take k := by unfold findK; rw [if_pos e]; rfl
  rw [hk, e]
  exact own_findR n (by omega) lo hi h1 h2 (by omega) k h
theorem bufFind_bad (c lo hi m code : Int) (hne : code ≠ 0) (hT : Calls Tryz.prog 27 #[ptrV tb, .int .i64 c, .int .i64 lo, .int .i64 hi, .int .i64 m] w fun e V => e = .returned (.tuple #[.slice none 0 0, .int .i64 code]) ∧ Below w.heap.size w V)
  (x0 : w.cell? ⟨bb, 0, none⟩ = some (ptrV tb)) :
  Calls Tryz.prog 18 #[ptrV bb, .int .i64 c, .int .i64 lo, .int .i64 hi, .int .i64 m] w fun e V => e = .returned (.tuple #[.slice none 0 0, .int .i64 code]) ∧ Below w.heap.size w V := by
 have HT := Lib.hid hT
 have kd : (code != 0) = true := by rw [bne_iff_ne]; exact hne
 have kd2 : decide (code = 0) = false := by simpa using hne
 clear hT
 go_enter Tryz.func18, Tryz.ntmps18
 go_wp2
 go_step3
 go_wp2_with (go_at_call 27; refine HT.out.mono ?_; rintro e V1 ⟨rfl, hb⟩; have H1 := Lib.hid hb; clear hb)
 (try rw [Exit.noGoto_ret])
 go_ret2
 exact ⟨rfl, H1.out⟩
theorem own_bufFindAll (c lo hi m : Int) (h1 : Ky.In lo) (h2 : Ky.In hi) (hW : W.length ≤ 100000) (h : Own B w0 (BufR bb tb W :: TabR tb most o L :: X) w) :
  Calls Tryz.prog 18 #[ptrV bb, .int .i64 c, .int .i64 lo, .int .i64 hi, .int .i64 m] w fun e V => ∃ (a : Option Addr) (k : Nat), e = .returned (.tuple #[.slice a (findK c lo hi m (overT W L)).length k, .int .i64 (findE c lo hi m)]) ∧
   Own B w0 (SlR 1 a (findK c lo hi m (overT W L)).length k (textsV (findK c lo hi m (overT W L))) :: BufR bb tb W :: TabR tb most o L :: X) V := by
 have x0 := own_bufTb h (bb := bb) (tb := tb) (W := W) (by simp)
 have bad : ∀ code : Int, findE c lo hi m = code → code ≠ 0 → (Calls Tryz.prog 27 #[ptrV tb, .int .i64 c, .int .i64 lo, .int .i64 hi, .int .i64 m] w fun e V => e = .returned (.tuple #[.slice none 0 0, .int .i64 code]) ∧ Below w.heap.size w V) →
   Calls Tryz.prog 18 #[ptrV bb, .int .i64 c, .int .i64 lo, .int .i64 hi, .int .i64 m] w fun e V => ∃ (a : Option Addr) (k : Nat), e = .returned (.tuple #[.slice a (findK c lo hi m (overT W L)).length k, .int .i64 (findE c lo hi m)]) ∧
   Own B w0 (SlR 1 a (findK c lo hi m (overT W L)).length k (textsV (findK c lo hi m (overT W L))) :: BufR bb tb W :: TabR tb most o L :: X) V := fun code e hne hc => by
  have hk : findK c lo hi m (overT W L) = [] := by unfold findK; rw [if_neg (by rw [e]; exact hne)]
  rw [hk, e]
  refine (bufFind_bad c lo hi m code hne hc x0).mono ?_
  rintro e2 V ⟨rfl, hb⟩
  exact ⟨none, 0, rfl, own_nilSl (h.later hb) 1⟩
 rcases findE_cases c lo hi m with ⟨e, hx⟩ | ⟨e, c0, c3, hl, hm⟩ | ⟨e, c0, c3, hl, hm⟩
 ·by_cases hc : c < 0 ∨ 3 < c
  ·exact bad 10 e (by omega) (findTb_col tb c lo hi m (by omega) w)
  ·obtain ⟨n, rfl⟩ : ∃ n : Nat, c = n := ⟨c.toNat, by omega⟩
   exact bad 10 e (by omega) (findTb_bad tb n (by omega) lo hi m (by omega) w)
 ·obtain ⟨n, rfl⟩ : ∃ n : Nat, c = n := ⟨c.toNat, by omega⟩
  exact bad 23 e (by omega) (findTb_neg tb n (by omega) lo hi m h1 h2 (by omega) hm w)
 ·obtain ⟨n, rfl⟩ : ∃ n : Nat, c = n := ⟨c.toNat, by omega⟩
  obtain ⟨k, rfl⟩ : ∃ k : Nat, m = k := ⟨m.toNat, by omega⟩
  have hk : findK (n : Int) lo hi (k : Int) (overT W L) = (keysOf (hits n lo hi (overT W L))).take k := by unfold findK; rw [if_pos e]; rfl
  rw [hk, e]
  exact own_bufFind n (by omega) lo hi h1 h2 (by omega) k hW h
theorem findK_len {c lo hi m : Int} {A : List Pr} (hA : OkT A) (h1 : Ky.In lo) (h2 : Ky.In hi) (hs : Sorted A) {n : Nat} (hn : A.length ≤ n) : (findK c lo hi m A).length ≤ n := by
 unfold findK
 split
 ·refine Nat.le_trans (by rw [List.length_take]; exact Nat.min_le_right _ _) ?_
  unfold keysOf
  rw [List.length_map, hits_filter hA _ h1 h2]
  refine Nat.le_trans (List.length_filter_le _ _) ?_
  rw [idx_len hA hs]
  exact hn
 ·exact Nat.zero_le _
theorem putT_len {M : List Pr} (k : Str) (r : R4) (h : M.length ≤ most) : (putT k r most M).length ≤ most := by
 by_cases hp : putE k most M = 0
 ·have e : putT k r most M = ins (k, encT r) M := if_pos hp
  rw [e, ins_len]
  cases hg : get k M with
  | some u =>
   rw [if_neg (by simp)]
   exact h
  | none =>
   rw [if_pos rfl]
   unfold putE at hp
   by_cases hk : Ks.okKey k = true
   ·rw [if_pos hk, hg] at hp
    by_cases hm : most ≤ M.length
    ·simp [hm] at hp
    ·omega
   ·rw [if_neg hk] at hp
    omega
 ·have e : putT k r most M = M := if_neg hp
  rw [e]
  exact h
theorem delT_len {M : List Pr} (k : Str) (h : M.length ≤ most) : (delT k M).length ≤ most := by
 unfold delT
 split
 ·have := del_len k M
  omega
 ·exact h
theorem over_step2 (hW : Sorted W) (hL : Sorted L) (x : OpT) : overT (stepB2 most L x W) L = if x.1 = 0 then putT x.2.1 x.2.2 most (overT W L) else delT x.2.1 (overT W L) := by
 unfold stepB2
 split
 ·exact over_put hW hL _ _
 ·exact over_del hW hL _
theorem runB2_ok (hL : Sorted L) (hm : L.length ≤ most) : ∀ (l : List OpT) {W : List Pr}, Sorted W → (overT W L).length ≤ most → Sorted (l.foldl (fun W x => stepB2 most L x W) W) ∧ (overT (l.foldl (fun W x => stepB2 most L x W) W) L).length ≤ most
 | [], _, h1, h2 => ⟨h1, h2⟩
 | x :: l, W, h1, h2 => by
  refine runB2_ok hL hm l (W := stepB2 most L x W) ?_ ?_
  ·unfold stepB2
   split
   ·exact putW_sorted h1 _ _
   ·exact delW_sorted h1 _
  ·rw [over_step2 h1 hL]
   split
   ·exact putT_len _ _ h2
   ·exact delT_len _ h2
theorem over_idem (hW : Sorted W) (hL : Sorted L) : overT W (overT W L) = overT W L := by
 have h1 := over_sorted W hL
 refine sorted_get_ext (over_sorted W h1) h1 (fun k => ?_)
 rw [over_get hW h1, over_get hW hL]
 cases get k W <;> rfl
end
end Bf
end Go.Proofs.YtecnijnmgdfdhaaGreat
