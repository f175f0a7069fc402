/- Joined: Bf9, Bf10. -/
import Derived.Test.YtecnijnmgdfdhaaGreatYBfC
import Derived.Shelf.SlSortCmp.NoneTotal
namespace Go.Proofs.YtecnijnmgdfdhaaGreat
namespace Bf
open Go.RowKit Tr Tb
open Ky (less)
open Go.Sort
theorem sortW_grown {α : Type} [Inhabited α] (enc : α → List Value) (k : Nat) (w : World) (blk off n : Nat) (dk : Array α) (os : Array Obj) : w.grownBy (sortWorldK enc k w blk off n dk os) (some blk) := by
 have hsz : (putRowK enc k (Sort.ahead w n) blk off dk).heap.size = w.heap.size := size_putRowK enc k _ blk off dk
 refine ⟨rfl, rfl, rfl, ?_, fun i hi hne => ?_⟩
 ·unfold sortWorldK grow
  simp only [Array.size_append, hsz]
  omega
 ·unfold sortWorldK
  rw [heap_grow_old _ _ (by rw [hsz]; exact hi)]
  have : ¬ blk = i := fun e => hne (by rw [e])
  simp [putRowK, putRow, mapBlock, Sort.ahead, Array.getElem?_modify, this]
def cfW (p q : WQ) : Int := Ky.cmpS p.1.1 q.1.1
theorem lt_cfW (p q : WQ) : ltOf cfW p q = less p.1.1 q.1.1 := by
 unfold ltOf cfW
 cases h : less p.1.1 q.1.1 with
 | true => exact decide_eq_true (Ky.cmpS_neg.2 h)
 | false => exact decide_eq_false (fun h' => by rw [Ky.cmpS_neg.1 h'] at h; cases h)
theorem swoW : SWO (ltOf cfW) := by
 refine ⟨fun x => by rw [lt_cfW, Ky.less_self], fun x y z h1 h2 => ?_, fun x y z h1 h2 => ?_⟩
 ·rw [lt_cfW] at h1 h2 ⊢
  exact Tr.less_trans h1 h2
 ·rw [lt_cfW] at h1 h2 ⊢
  cases h : less x.1.1 z.1.1 with
  | false => rfl
  | true =>
   rcases Ky.less_trich x.1.1 y.1.1 with e | e | e
   ·rw [e, h2] at h; cases h
   ·rw [e] at h1; cases h1
   ·have := Tr.less_trans e h; rw [this] at h2; cases h2
theorem wsV_at {qs : List WQ} {i : Nat} {u : Value} (h : (wsV qs)[i]? = some u) : ∃ q, qs[i / 2]? = some q ∧ u = (wsE q)[i % 2]! := by
 have hi := (List.getElem?_eq_some_iff.1 h).1
 rw [wsV_len] at hi
 have hlt : i / 2 < qs.length := by omega
 have hq : qs[i / 2]? = some qs[i / 2] := List.getElem?_eq_getElem hlt
 refine ⟨_, hq, ?_⟩
 obtain ⟨g0, g1⟩ := wsV_get hq
 rcases Nat.mod_two_eq_zero_or_one i with e | e
 ·rw [show i / 2 * 2 = i by omega, h] at g0
  rw [e, Option.some.inj g0]; rfl
 ·rw [show i / 2 * 2 + 1 = i by omega, h] at g1
  rw [e, Option.some.inj g1]; rfl
theorem get_at {qs : List WQ} {i : Nat} (hi : i < qs.length * 2) : ∃ q, qs[i / 2]? = some q ∧ (wsV qs)[i]? = some (wsE q)[i % 2]! := by
 have hlt : i < (wsV qs).length := by rw [wsV_len]; exact hi
 obtain ⟨q, h1, h2⟩ := wsV_at (List.getElem?_eq_getElem hlt)
 exact ⟨q, h1, by rw [← h2]; exact List.getElem?_eq_getElem hlt⟩
theorem arr_get {qs : List WQ} {i : Nat} {q : WQ} (h : qs[i]? = some q) : qs.toArray[i]! = q := by
 obtain ⟨hi, rfl⟩ := List.getElem?_eq_some_iff.1 h
 simp [hi]
theorem holdsW {w : World} {b o : Nat} {qs : List WQ} (h2 : ∀ i u, (wsV qs)[i]? = some u → w.cell? ⟨b, o + i, none⟩ = some u) (h3 : ∀ i, i < qs.length * 2 → w.frozen? ⟨b, o + i, none⟩ = false) : HoldsK wsE 2 w b o qs.toArray := by
 intro j hj
 rw [size_flatK] at hj
 have hj' : j < qs.length * 2 := by simpa using hj
 obtain ⟨q, h4, h5⟩ := get_at hj'
 refine ⟨?_, h3 j hj'⟩
 rw [get_flatK _ _ _ _ hj, arr_get h4]
 exact h2 j _ h5
theorem cmpW {blk off size : Nat} (w : World) : CmpLays Tryz.prog 85 #[] wsE 2 cfW blk off size w := by
 intro m os dk _ x y
 refine (order_run x.1.1 y.1.1 (elC (fun _ => x.2) x.1.1 x.1.2) (elC (fun _ => y.2) y.1.1 y.1.2) _).mono ?_
 rintro e V ⟨rfl, rfl⟩
 exact ⟨rfl, 0, #[_, _], by rw [World.drewN_zero, alloc_eq_grow, alloc_eq_grow, grow_grow]; rfl⟩
theorem sort_run {w : World} {F : Foot} {a : Option Addr} {c : Nat} {qs : List WQ} (h : Sl w 2 F a qs.length c (wsV qs)) (hn : (qs.map fun q => q.1.1).Nodup) (hl : qs.length ≤ 1000000) :
  Calls Tryz.prog 84 #[.slice a qs.length c, .func (.func 85) #[] #[]] w fun e V =>
   e = .returned (.tuple #[]) ∧ ∃ qs' : List WQ, qs'.Perm qs ∧ Sorted (qs'.map Prod.fst) ∧ Rd V 2 a qs.length c (wsV qs') ∧ Fr (fun k _ => ∃ o, F k o) w V := by
 by_cases h0 : qs = []
 ·subst h0
  refine (AnyF.slices_SortFunc_none (ρ := sortWrite_ren) { sortWrite with } a c _ w).mono ?_
  rintro e V ⟨rfl, rfl⟩
  exact ⟨rfl, [], .refl _, List.Pairwise.nil, h.rd, Fr.refl _ _⟩
 ·have hpos : 0 < qs.length := List.length_pos_iff.2 h0
  obtain ⟨b, o, rfl, hF, h2, h3⟩ := h.addr (by omega)
  have hle := h.le
  have hH : HoldsK wsE 2 w b o qs.toArray := holdsW h2 (fun i hi => (h3 i (by have := Nat.mul_le_mul_right 2 hle; omega)).2)
  have hblk : b < w.heap.size := by
   obtain ⟨q, _, hq⟩ := get_at (qs := qs) (i := 0) (by omega)
   exact block_of_cell (h2 0 _ hq)
  have hs := AnyQ.slices_SortFunc (ρ := sortWrite_ren) { sortWrite with } 2 (by intro w; kernel_rfl) (by intro w; kernel_rfl) wsE (fun _ => rfl) wsE_one cfW swoW 85 #[] b o c qs.toArray w
   (enters_any Tryz.func85 (by kernel_rfl) rfl) (cmpW w) hH hblk (by simp; omega)
  refine Calls.mono hs ?_
  rintro e V ⟨rfl, d', n, os, ⟨hsz, _, hperm⟩, hsort, rfl⟩
  have hsz' : d'.size = qs.length := by simpa using hsz
  have hp : d'.toList.Perm qs := by
   have := hperm
   rw [show qs.toArray.size = d'.size from hsz.symm] at this
   have e1 : List.take qs.length d'.toList = d'.toList := List.take_of_length_le (by simp [hsz'])
   simp [hsz'] at this
   rwa [e1] at this
  have hHV := holdsK_sortWorldK wsE 2 w b o n qs.toArray d' os hblk hH hsz
  have hcell : ∀ i u, (wsV d'.toList)[i]? = some u → (sortWorldK wsE 2 w b o n d' os).cell? ⟨b, o + i, none⟩ = some u := fun i u hu => by
   obtain ⟨q, hq, rfl⟩ := wsV_at hu
   have hi : i / 2 < d'.size := by have := (List.getElem?_eq_some_iff.1 hq).1; simpa using this
   have h4 := (hHV.cell hi (Nat.mod_lt i (by omega))).1
   rw [show o + i / 2 * 2 + i % 2 = o + i by omega] at h4
   rw [h4]
   have := arr_get hq
   simp only [Array.toArray_toList] at this
   rw [this]
  refine ⟨rfl, d'.toList, hp, ?_, ⟨?_, hle, h.cap, (fun h => by cases h), fun x hx i u hu => ?_, wsV_one _⟩, (Fr.grown (sortW_grown wsE 2 w b o n d' os)).mono (fun k _ e => ⟨o + 0, by have := Option.some.inj e; rw [← this]; exact hF 0 (by have := Nat.mul_le_mul_right 2 hle; omega)⟩)⟩
  ·have hnd : (d'.toList.map fun q => q.1.1).Nodup := (hp.map _).nodup_iff.2 hn
   unfold Sorted
   rw [List.pairwise_map]
   rw [List.pairwise_iff_getElem]
   intro i j hi hj hij
   have e1 : d'[i]! = d'.toList[i] := by simp at hi; simp [hi]
   have e2 : d'[j]! = d'.toList[j] := by simp at hj; simp [hj]
   have h4 := hsort i j (Nat.zero_le _) hij (by simp at hj ⊢; omega)
   rw [lt_cfW, e1, e2] at h4
   rcases Ky.less_trich d'.toList[i].1.1 d'.toList[j].1.1 with e | e | e
   ·exfalso
    rw [List.nodup_iff_pairwise_ne, List.pairwise_map, List.pairwise_iff_getElem] at hnd
    exact hnd i j hi hj hij e
   ·exact e
   ·rw [e] at h4; cases h4
  ·rw [wsV_len]; simp [hsz']
  ·cases hx
   rw [Addr.add_lit]
   exact hcell i u hu
end Bf
end Go.Proofs.YtecnijnmgdfdhaaGreat

namespace Go.Proofs.YtecnijnmgdfdhaaGreat
namespace Bf
open Go.RowKit Tr Tb
open Ky (less)
attribute [local go_sem] Oper.semAt_some
theorem rd_fr {S : Foot} {w V : World} {a : Option Addr} {n c : Nat} {xs : List Value} (h : Rd w 2 a n c xs) (hf : Fr S w V) (ha : ∀ x, a = some x → xs ≠ [] → ∀ o, ¬ S x.block o) : Rd V 2 a n c xs := by
 refine ⟨h.len, h.le, h.cap, h.nil, fun x hx i u hu => ?_, h.one⟩
 have h1 := h.cell x hx i u hu
 have hne : xs ≠ [] := fun e => by rw [e] at hu; simp at hu
 have hlt := block_of_cell h1
 rw [addr_add_block] at hlt
 rw [World.cell?_of_block (hf.block _ (by rw [addr_add_block]; exact hlt) (fun o => by rw [addr_add_block]; exact ha x hx hne o))]
 exact h1
theorem infoWr : (Tryz.prog.info? 106).map (fun i => (i.zero, i.size, i.bytes)) = some (some (.agg #[.string ⟨#[]⟩, .pointer none]), 2, 24) := by kernel_rfl
def WsR (a : Option Addr) (c : Nat) (W : List Pr) : Rs where
 R w F := ∃ qs : List WQ, qs.map Prod.fst = W ∧ Rd w 2 a W.length c (wsV qs) ∧ (∀ x, a = some x → wsV qs ≠ [] → ∀ o, F x.block o) ∧
  (∀ q ∈ qs, ∀ b s, q.1.2 = b :: s → (∀ o, F q.2 o) ∧ ∀ i, i < 4 → w.cell? ⟨q.2, i, none⟩ = some (.int .i64 (col (decT s) i))) ∧ Lies w F
 fr := fun {S F w w'} ⟨qs, h1, h2, h3, h4, h5⟩ hf ha =>
  ⟨qs, h1, rd_fr h2 hf (fun x hx hne o => ha _ _ (h3 x hx hne o)), h3, fun q hq b s e => ⟨(h4 q hq b s e).1, fun i hi => cell_fr hf ((h4 q hq b s e).2 i hi) (ha _ _ ((h4 q hq b s e).1 i))⟩, h5.later hf⟩
 lies := fun ⟨_, _, _, _, _, h5⟩ => h5
section
variable {B : Nat} {w0 w V : World} {X Y : List Rs} {bb tb mb rb most o n : Nat} {pt : Str → Nat} {D : DataW Unit} {W L : List Pr}
set_option maxHeartbeats 8000000 in
set_option maxRecDepth 100000 in
theorem own_sorted (hW : W.length ≤ 100000) (h : Own B w0 (BufR bb tb W :: X) w) :
  Calls Tryz.prog 52 #[ptrV bb] w fun e V => ∃ a c, e = .returned (.slice a W.length c) ∧ Own B w0 (WsR a c W :: BufR bb tb W :: X) V := by
 obtain ⟨mb, pt, D, hM, hA⟩ := own_bufOpen h
 obtain ⟨⟨x0, x1⟩, hown, hrows⟩ := own_bufAt hA
 have HM := Lib.hid hM
 have HO := Lib.hid h
 have HOwn := Lib.hid hown
 have HRo := Lib.hid hrows
 obtain ⟨r, hr⟩ : ∃ r, w.heap.size = r := ⟨_, rfl⟩
 obtain ⟨V2, hV2⟩ : ∃ V2, (w.alloc (.cells #[.slice none 0 0] 103)).alloc (.cells #[.map (some mb)] 86) = V2 := ⟨_, rfl⟩
 have HC : Hid (V2.cell? ⟨r, 0, none⟩ = some (.slice none 0 0) ∧ V2.frozen? ⟨r, 0, none⟩ = false ∧ V2.cell? ⟨r + 1, 0, none⟩ = some (.map (some mb)) ∧ V2.heap.size = r + 2 ∧ Below w.heap.size w V2) := Lib.hid (by
  refine ⟨by rw [← hV2, ← hr]; simp, by rw [← hV2, ← hr]; simp, by rw [← hV2, ← hr]; simp, by rw [← hV2, ← hr]; simp, ?_⟩
  rw [← hV2]
  exact (al1 w _).trans ((al1 (w.alloc (.cells #[.slice none 0 0] 103)) _).mono (by simp)))
 have HLt : Hid (mb < r ∧ ∀ k b s, get k W = some (b :: s) → pt k < r) := Lib.hid (by
  rw [← hr]
  exact ⟨hown.lt, fun k b s hg => block_of_cell (hrows k b s hg 0 (by omega))⟩)
 have HS : Hid (∀ o1 o2, TellsA Tryz.prog 119 #[.pointer (some ⟨r + 1, 0, none⟩)] (encW pt) (AdmW W) (FinW W) (fun k => k = mb) (fun _ => False) ((V2.alloc o1).alloc o2)) := Lib.hid (fun o1 o2 => by
  have hbo : Below V2.heap.size V2 ((V2.alloc o1).alloc o2) := (al1 V2 o1).trans ((al1 (V2.alloc o1) o2).mono (by simp))
  exact all1_tells HM.out (old_cell HC.out.2.2.1 hbo) (HOwn.out.kept (grown_of_below (HC.out.2.2.2.2.trans (hbo.mono HC.out.2.2.2.2.size))) (by simp)) rfl)
 have y0 := old_cell x0 (al1 w (.cells #[.slice none 0 0] 103))
 have y1 := old_cell x1 (al1 w (.cells #[.slice none 0 0] 103))
 clear h hA hM hown hrows
 refine calls_marks Tryz.func52 rfl ?_
 simp only [Tryz.ntmps52, List.size_toArray, List.length_cons, List.length_nil, Nat.reduceAdd, Nat.reduceSub, Array.replicate_succ, Array.replicate_zero, List.push_toArray, List.append_toArray, List.nil_append, List.cons_append]
 gi_wp2_with (refine ⟨trivial, ?_⟩; gi_at_call 82; refine (callsIn_wide.2 (mapsAll_run _ _)).mono ?_; rintro e V ⟨rfl, hV⟩)
 rw [hV2] at hV
 subst hV
 refine' wpIn_range_tellsA (by omega) (gf := 119) (lb := #[.pointer (some ⟨r + 1, 0, none⟩)]) rfl (enters_any Tryz.func119 (by kernel_rfl) rfl) (encs := encW pt) (Adm := AdmW W) (Fin := FinW W)
  (R := fun k => k = mb) (K0 := fun _ => False) HS.out (fun x => rfl) (fun k hk => by rw [hk, HC.out.2.2.2.1]; have := HLt.out.1; omega) (fun k hk => hk.elim)
  (CWI V2 r) (CWI.clos (by rw [HC.out.2.2.2.1]; omega)) (CWI.start HC.out.1 HC.out.2.1) _ ?assign ?body ?done
 case assign =>
  intro l' x W2 K1 hK1
  simp only [encW]
  gi_wp2
  exact hK1
 case body =>
  rintro l' K0 pre ⟨k, v⟩ W3 hadm _ ⟨qs, F, a3, c3, hq, hcw⟩
  cases v with
  | nil =>
   have HOw : Hid (Calls Tryz.prog 83 #[.pointer none] W3.drew fun e V => e = .returned (.pointer none) ∧ Below W3.heap.size W3 V) := Lib.hid ((own_nil _).mono (by rintro e V ⟨rfl, rfl⟩; exact ⟨rfl, (Below.refl _ _).drew⟩))
   have HCW := Lib.hid hcw
   have m0 := hcw.box
   have HQ := Lib.hid hq
   have HN : Hid (qs.length + 1 ≤ 100000) := Lib.hid (by have h1 := hadm.len; rw [List.length_append, ← hq] at h1; simp at h1; omega)
   clear hcw hq hadm
   obtain ⟨n, hn⟩ : ∃ n, qs.length = n := ⟨_, rfl⟩
   rw [hn] at m0 HN
   have HNn := Lib.hid hn
   clear hn
   simp only [elC, ptrO, Option.map_none, Option.map_some]
   gi_wp2
   refine wpIn_region_till 7 (fun V => V.cell? ⟨r, 0, none⟩ = some (.slice a3 n c3)) (by kernel_rfl) (fun ⟨_, _, h⟩ => h) (by kernel_rfl) m0 (fun hH => ?_)
   refine zzU (i := 0) (v := ?v0) rfl (by kernel_rfl) (fun _ _ _ h => h) rfl ?h0 hH ?r0
   case h0 => (intro W h; (try dsimp only at h); go_simp; all_goals (with_reducible rfl))
   try simp only [zzA, zzB, zzC, Act.put, zzD, zzE, zzF]
   refine zzU (i := 1) (v := ?v1) rfl (by kernel_rfl) (fun _ _ _ h => h) rfl ?h1 hH ?r1
   case h1 => (intro W h; (try dsimp only at h); go_simp; all_goals (with_reducible rfl))
   try simp only [zzA, zzB, zzC, Act.put, zzD, zzE, zzF]
   refine zzU (i := 2) (v := ?v2) rfl (by kernel_rfl) (fun _ _ _ h => h) rfl ?h2 hH ?r2
   case h2 => (intro W h; (try dsimp only at h); go_simp; all_goals (with_reducible rfl))
   try simp only [zzA, zzB, zzC, Act.put, zzD, zzE, zzF]
   refine wpTill_one (i := 3) (by kernel_rfl) rfl rfl (fun K hK => ?_)
   simp only [zzA, zzB, zzC]
   go_simp
   (go_at_call 83; refine HOw.out.mono ?_; rintro e V4 ⟨rfl, hb4⟩)
   have hH2 := old_cell m0 hb4
   refine hK.out _ _ (fun _ => hH2) ?_
   clear hK hH
   have hH := hH2
   clear hH2 K
   try simp only [zzA, zzB, zzC, Act.put, zzD, zzE, zzF]
   have HST : Hid (∃ (a4 : Option Addr) (c4 : Nat) (W4 : World), (Builtin.append_ #[103, 103] 103 #[.slice a3 n c3, .slice (some ⟨V4.heap.size, 0, none⟩) 1 1]).run Tryz.prog (V4.alloc (.cells #[.string ⟨k.toArray⟩, .pointer none] 106)) = .ok (.slice a4 (n + 1) c4) W4 ∧ W4.cell? ⟨r, 0, none⟩ = some (.slice a3 n c3) ∧ W4.frozen? ⟨r, 0, none⟩ = false ∧
     Fr (fun k _ => ¬ K0 k ∧ ¬ k = mb) W3 (W4.setCell ⟨r, 0, none⟩ (.slice a4 (n + 1) c4)) ∧ CWI V2 r K0 (pre ++ [(k, [])]) (W4.setCell ⟨r, 0, none⟩ (.slice a4 (n + 1) c4))) := Lib.hid (by
    have h := HCW.out
    have hn := HNn.out
    obtain ⟨i0, hi, hz0, hz1, hz2⟩ := info_parts infoWr
    have hb5 : Below W3.heap.size W3 (V4.alloc (.cells #[.string ⟨k.toArray⟩, .pointer none] 106)) := hb4.trans ((al1 V4 _).mono hb4.size)
    have hlt := HN.out
    have hsl := h.sl
    rw [hn] at hsl
    have f5 := Fr.ofBelow hb5 noCells
    obtain ⟨a4, c4, W4, F4, hrun, g2, g3, g4, g5⟩ := run_app_sl (P := Tryz.prog) (w := V4.alloc (.cells #[.string ⟨k.toArray⟩, .pointer none] 106)) 103 103 106 i0 _ 2 24 Tryz.underlying103 hi hz0 hz1 hz2 rfl (by decide) a3 n c3 (wsV qs) (hsl.fr f5 (fun _ _ _ h => h)) (h.lies.later f5) (some ⟨V4.heap.size, 0, none⟩) 1 1 [.string ⟨k.toArray⟩, .pointer none] (Rd.twoNew V4 _ _ _ rfl rfl) (by unfold maxLen; omega) (by omega)
    obtain ⟨v0, v1⟩ := Coll.after (by rw [HC.out.2.2.2.1]; omega) h.new h.box h.froz hb5 g3
    rw [hn] at v0
    have e1 : (qs ++ [(((k, []), 0) : WQ)]).length = n + 1 := by simp [hn]
    have hst := h.step (q := ((k, []), 0)) (by rw [HC.out.2.2.2.1]; omega) hb5 (fun b s e => by cases e) (by rw [e1, wsV_app]; exact g2) g3 g4 g5 (fun k => k = mb) (fun k e => by have := HLt.out.1; rw [HC.out.2.2.2.1]; omega)
    rw [e1] at hst
    exact ⟨a4, c4, W4, hrun, v0, v1, hst.1, _, _, _, _, by rw [List.map_append, HQ.out]; rfl, hst.2⟩)
   clear hb4
   obtain ⟨a4, c4, W4, hrun, v0, v1, hfin⟩ := HST.out
   have HFin := Lib.hid hfin
   have HRUN := Lib.hid hrun
   clear hfin hrun HST
   refine wpTill_one (i := 4) (by kernel_rfl) rfl rfl (fun K hK => ?_)
   go_simp
   refine hK.out _ _ (fun _ => hH) ?_
   clear hK K
   try simp only [zzA, zzB, zzC, Act.put, zzD, zzE, zzF]
   refine wpTill_one (i := 5) (by kernel_rfl) rfl rfl (fun K hK => ?_)
   go_simp
   refine hK.out _ _ (fun _ => old_cell hH (al1 V4 _)) ?_
   clear hK K hH
   try simp only [zzA, zzB, zzC, Act.put, zzD, zzE, zzF]
   refine wpTill_one (i := 6) (by kernel_rfl) rfl rfl (fun K hK => ?_)
   refine wp_appR _ _ 103 103 (by rfl) _ _ (by rfl) (by rfl) HRUN.out ?_
   refine hK.out _ _ (fun _ => v0) ?_
   clear hK K
   try simp only [zzA, zzB, zzC, Act.put, zzD, zzE, zzF]
   refine wpTill_one (i := 7) (by kernel_rfl) rfl rfl (fun K hK => ?_)
   go_simp
   refine hK.out _ _ (fun h => absurd rfl h) ?_
   clear hK K
   try simp only [zzA, zzB, zzC, Act.put, zzD, zzE, zzF]
   refine wpTill_done (by kernel_rfl) ?_ _
   gi_wp2
   exact HFin.out
  | cons b s =>
   have hmem : (k, b :: s) ∈ W := hadm.2 _ (by simp)
   have hg := (mem_get HM.out.2.1).2 hmem
   have hp := HLt.out.2 k b s hg
   have HOw : Hid (Calls Tryz.prog 83 #[ptrV (pt k)] W3.drew fun e V => e = .returned (ptrV W3.heap.size) ∧ Below W3.heap.size W3 V ∧ ∀ i, i < 4 → V.cell? ⟨W3.heap.size, i, none⟩ = some (.int .i64 (col (decT s) i))) := Lib.hid (by
    refine (own_some (w := W3.drew) (b := pt k) (decT s) (fun i hi => ?_)).mono ?_
    ·exact cell_fr hcw.fr (old_cell (HRo.out k b s hg i hi) HC.out.2.2.2.2) (by omega)
    ·rintro e V ⟨rfl, h1, _, h2⟩
     exact ⟨rfl, (Below.refl W3.heap.size W3).drew.trans h1, h2⟩)
   have HCW := Lib.hid hcw
   have m0 := hcw.box
   have HQ := Lib.hid hq
   have HN : Hid (qs.length + 1 ≤ 100000) := Lib.hid (by have h1 := hadm.len; rw [List.length_append, ← hq] at h1; simp at h1; omega)
   clear hcw hq hadm hmem hg hp
   obtain ⟨n, hn⟩ : ∃ n, qs.length = n := ⟨_, rfl⟩
   rw [hn] at m0 HN
   have HNn := Lib.hid hn
   clear hn
   simp only [elC, ptrO, Option.map_none, Option.map_some]
   gi_wp2
   refine wpIn_region_till 7 (fun V => V.cell? ⟨r, 0, none⟩ = some (.slice a3 n c3)) (by kernel_rfl) (fun ⟨_, _, h⟩ => h) (by kernel_rfl) m0 (fun hH => ?_)
   refine zzU (i := 0) (v := ?v0c) rfl (by kernel_rfl) (fun _ _ _ h => h) rfl ?h0c hH ?r0c
   case h0c => (intro W h; (try dsimp only at h); go_simp; all_goals (with_reducible rfl))
   try simp only [zzA, zzB, zzC, Act.put, zzD, zzE, zzF]
   refine zzU (i := 1) (v := ?v1c) rfl (by kernel_rfl) (fun _ _ _ h => h) rfl ?h1c hH ?r1c
   case h1c => (intro W h; (try dsimp only at h); go_simp; all_goals (with_reducible rfl))
   try simp only [zzA, zzB, zzC, Act.put, zzD, zzE, zzF]
   refine zzU (i := 2) (v := ?v2c) rfl (by kernel_rfl) (fun _ _ _ h => h) rfl ?h2c hH ?r2c
   case h2c => (intro W h; (try dsimp only at h); go_simp; all_goals (with_reducible rfl))
   try simp only [zzA, zzB, zzC, Act.put, zzD, zzE, zzF]
   refine wpTill_one (i := 3) (by kernel_rfl) rfl rfl (fun K hK => ?_)
   simp only [zzA, zzB, zzC]
   go_simp
   (go_at_call 83; refine HOw.out.mono ?_; rintro e V4 ⟨rfl, hb4, hc4⟩)
   have hH2 := old_cell m0 hb4
   refine hK.out _ _ (fun _ => hH2) ?_
   clear hK hH
   have hH := hH2
   clear hH2 K
   try simp only [zzA, zzB, zzC, Act.put, zzD, zzE, zzF]
   have HST : Hid (∃ (a4 : Option Addr) (c4 : Nat) (W4 : World), (Builtin.append_ #[103, 103] 103 #[.slice a3 n c3, .slice (some ⟨V4.heap.size, 0, none⟩) 1 1]).run Tryz.prog (V4.alloc (.cells #[.string ⟨k.toArray⟩, ptrV W3.heap.size] 106)) = .ok (.slice a4 (n + 1) c4) W4 ∧ W4.cell? ⟨r, 0, none⟩ = some (.slice a3 n c3) ∧ W4.frozen? ⟨r, 0, none⟩ = false ∧
     Fr (fun k _ => ¬ K0 k ∧ ¬ k = mb) W3 (W4.setCell ⟨r, 0, none⟩ (.slice a4 (n + 1) c4)) ∧ CWI V2 r K0 (pre ++ [(k, b :: s)]) (W4.setCell ⟨r, 0, none⟩ (.slice a4 (n + 1) c4))) := Lib.hid (by
    have h := HCW.out
    have hn := HNn.out
    obtain ⟨i0, hi, hz0, hz1, hz2⟩ := info_parts infoWr
    have hb5 : Below W3.heap.size W3 (V4.alloc (.cells #[.string ⟨k.toArray⟩, ptrV W3.heap.size] 106)) := hb4.trans ((al1 V4 _).mono hb4.size)
    have hlt := HN.out
    have hsl := h.sl
    rw [hn] at hsl
    have f5 := Fr.ofBelow hb5 noCells
    obtain ⟨a4, c4, W4, F4, hrun, g2, g3, g4, g5⟩ := run_app_sl (P := Tryz.prog) (w := V4.alloc (.cells #[.string ⟨k.toArray⟩, ptrV W3.heap.size] 106)) 103 103 106 i0 _ 2 24 Tryz.underlying103 hi hz0 hz1 hz2 rfl (by decide) a3 n c3 (wsV qs) (hsl.fr f5 (fun _ _ _ h => h)) (h.lies.later f5) (some ⟨V4.heap.size, 0, none⟩) 1 1 [.string ⟨k.toArray⟩, ptrV W3.heap.size] (Rd.twoNew V4 _ _ _ rfl rfl) (by unfold maxLen; omega) (by omega)
    obtain ⟨v0, v1⟩ := Coll.after (by rw [HC.out.2.2.2.1]; omega) h.new h.box h.froz hb5 g3
    rw [hn] at v0
    have e1 : (qs ++ [(((k, b :: s), W3.heap.size) : WQ)]).length = n + 1 := by simp [hn]
    have hst := h.step (q := ((k, b :: s), W3.heap.size)) (by rw [HC.out.2.2.2.1]; omega) hb5 (fun b' s' e => by cases e; exact ⟨Nat.le_refl _, fun i hi => old_cell (hc4 i hi) (al1 V4 _)⟩) (by rw [e1, wsV_app]; exact g2) g3 g4 g5 (fun k => k = mb) (fun k e => by have := HLt.out.1; rw [HC.out.2.2.2.1]; omega)
    rw [e1] at hst
    exact ⟨a4, c4, W4, hrun, v0, v1, hst.1, _, _, _, _, by rw [List.map_append, HQ.out]; rfl, hst.2⟩)
   clear hb4 hc4
   obtain ⟨a4, c4, W4, hrun, v0, v1, hfin⟩ := HST.out
   have HFin := Lib.hid hfin
   have HRUN := Lib.hid hrun
   clear hfin hrun HST
   refine wpTill_one (i := 4) (by kernel_rfl) rfl rfl (fun K hK => ?_)
   go_simp
   refine hK.out _ _ (fun _ => hH) ?_
   clear hK K
   try simp only [zzA, zzB, zzC, Act.put, zzD, zzE, zzF]
   refine wpTill_one (i := 5) (by kernel_rfl) rfl rfl (fun K hK => ?_)
   go_simp
   refine hK.out _ _ (fun _ => old_cell hH (al1 V4 _)) ?_
   clear hK K hH
   try simp only [zzA, zzB, zzC, Act.put, zzD, zzE, zzF]
   refine wpTill_one (i := 6) (by kernel_rfl) rfl rfl (fun K hK => ?_)
   refine wp_appR _ _ 103 103 (by rfl) _ _ (by rfl) (by rfl) HRUN.out ?_
   refine hK.out _ _ (fun _ => v0) ?_
   clear hK K
   try simp only [zzA, zzB, zzC, Act.put, zzD, zzE, zzF]
   refine wpTill_one (i := 7) (by kernel_rfl) rfl rfl (fun K hK => ?_)
   go_simp
   refine hK.out _ _ (fun h => absurd rfl h) ?_
   clear hK K
   try simp only [zzA, zzB, zzC, Act.put, zzD, zzE, zzF]
   refine wpTill_done (by kernel_rfl) ?_ _
   gi_wp2
   exact HFin.out
 case done =>
  rintro D K xs W3 hfin ⟨qs, F, a3, c3, hq, hcw⟩ _ hKD hsD hDef
  have hperm : (qs.map Prod.fst).Perm W := by rw [hq]; exact hfin.perm HM.out.2.1
  have hlen : qs.length = W.length := by have := hperm.length_eq; simpa using this
  have hnd : (qs.map fun q => q.1.1).Nodup := by
   have := hfin.1.1
   rw [← hq, List.map_map] at this
   exact this
  have HSr := Lib.hid (sort_run hcw.sl hnd (by omega))
  have m0 := hcw.box
  have HCW := Lib.hid hcw
  have HP := Lib.hid hperm
  have HDf := Lib.hid hDef
  rw [hlen] at m0 HSr
  clear hcw hperm hnd hq hfin hDef hlen
  gi_wp2_with (refine ⟨trivial, ?_⟩; gi_at_call 84; refine (callsIn_wide.2 HSr.out).mono ?_; rintro e V ⟨rfl, qs', p1, p2, p3, p4⟩; have HV := Lib.hid (And.intro p1 (And.intro p2 (And.intro p3 p4))); have z0 := cell_fr p4 m0 (fun ⟨o, ho⟩ => by have := (HCW.out.new _ _ ho).1; rw [HC.out.2.2.2.1] at this; omega); clear p1 p2 p3 p4)
  (try rw [Exit.noGoto_ret])
  obtain ⟨p1, p2, p3, p4⟩ := HV.out
  have h := HCW.out
  have hs2 := HC.out.2.2.2.1
  refine leave_marks [D] V (by simp) (fun E hE => by simp at hE; subst hE; exact p4.obj HDf.out (fun _ ⟨o, ho⟩ => (h.new _ _ ho).2 hKD)) (fun W' hf => ?_)
  refine ⟨_, results_tmp rfl _ _ _, a3, c3, rfl, ?_⟩
  have hws := HC.out.2.2.2.2.size
  have hfr : Fr (fun k _ => r ≤ k) V2 W' := ((h.fr.mono (fun k _ e => by omega)).trans p4 (fun k o ⟨o', ho⟩ => .inl (by have := (h.new _ _ ho).1; omega))).trans hf (fun k o hk => .inl (by simp at hk; omega))
  have hbw : Below w.heap.size w W' := HC.out.2.2.2.2.trans (hfr.below hws (fun k o hk => by omega))
  have hsz : V2.heap.size ≤ W3.heap.size := h.fr.size
  have hsz2 : W3.heap.size ≤ W'.heap.size := Nat.le_trans p4.size hf.size
  have eW : qs'.map Prod.fst = W := sorted_get_ext p2 HM.out.2.1 (fun k => by
   have hpp := (p1.map Prod.fst).trans HP.out
   cases hg : get k W with
   | some v => exact (mem_get p2).2 (hpp.mem_iff.2 ((mem_get HM.out.2.1).1 hg))
   | none =>
    cases hg' : get k (qs'.map Prod.fst) with
    | none => rfl
    | some v =>
     have := (mem_get HM.out.2.1).2 (hpp.mem_iff.1 ((mem_get p2).1 hg'))
     rw [hg] at this; cases this)
  have hne : ∀ x, a3 = some x → wsV qs' ≠ [] → (∃ o, F x.block o) := fun x hx hne => by
   have hq : 0 < qs.length := by
    have h1 := p1.length_eq
    cases hqs : qs' with
    | nil => rw [hqs] at hne; exact absurd rfl hne
    | cons q l => rw [hqs] at h1; simp at h1; omega
   obtain ⟨b, o, e, hF, _⟩ := h.sl.addr (by omega)
   rw [hx] at e
   cases e
   have hle := h.sl.le
   exact ⟨_, hF 0 (by omega)⟩
  refine HO.out.add hbw (F := fun k _ => w.heap.size ≤ k ∧ k < W'.heap.size) ⟨qs', eW, rd_fr p3 hf (fun x hx hn o hk => ?_), fun x hx hn o => ?_, fun q hq b s e => ?_, fun k o hk => hk.2⟩ (fun k o hk => hk.1)
  ·obtain ⟨o', ho⟩ := hne x hx hn
   simp at hk
   rw [hk] at ho
   exact (h.new _ _ ho).2 hKD
  ·obtain ⟨o', ho⟩ := hne x hx hn
   have h1 := (h.new _ _ ho).1
   have h2 := h.lies _ _ ho
   omega
  ·obtain ⟨r1, r2, r3, r4⟩ := h.rows q (p1.mem_iff.1 hq) b s e
   have h0 := block_of_cell (r4 0 (by omega))
   simp at h0
   refine ⟨fun o => ⟨by omega, by omega⟩, fun i hi => cell_fr hf (cell_fr p4 (r4 i hi) (fun ⟨o, ho⟩ => r3 o ho)) (fun hk => ?_)⟩
   simp at hk
   exact r2 (by rw [hk]; exact hKD)
end
end Bf
end Go.Proofs.YtecnijnmgdfdhaaGreat
