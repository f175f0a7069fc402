/- Joined: Bf21, Bf17, Bf23. -/
import Derived.Test.YtecnijnmgdfdhaaGreatYBfB
import Derived.Test.YtecnijnmgdfdhaaGreatYLawA
import Derived.Test.YtecnijnmgdfdhaaGreatYBfF
namespace Go.Proofs.YtecnijnmgdfdhaaGreat
namespace Bf
open Go.RowKit Tr Tb
open Ky (less)
section
variable {W L : List Pr} {most : Nat}
theorem over_put (hW : Sorted W) (hL : Sorted L) (k : Str) (r : R4) : overT (putW k r most W L) L = putT k r most (overT W L) := by
 unfold putW putT
 split
 ·rw [over_ins hW hL]; rfl
 ·rfl
theorem over_del (hW : Sorted W) (hL : Sorted L) (k : Str) : overT (delW k W L) L = delT k (overT W L) := by
 unfold delW delT
 rcases getE_cases k (overT W L) with ⟨h1, h2⟩ | ⟨h1, h2, h3⟩ | ⟨h1, h2, _⟩
 ·rw [h1, h2]; rfl
 ·rw [h1, h2, if_neg (by omega), if_pos rfl, del_none h3]
 ·rw [h1, h2, if_pos rfl, if_pos rfl, over_ins hW hL]; rfl
theorem putW_sorted (hW : Sorted W) (k : Str) (r : R4) : Sorted (putW k r most W L) := by
 unfold putW
 split
 ·exact hW.ins _
 ·exact hW
theorem delW_sorted (hW : Sorted W) (k : Str) : Sorted (delW k W L) := by
 unfold delW
 split
 ·exact hW.ins _
 ·exact hW
theorem putW_len (k : Str) (r : R4) : (putW k r most W L).length ≤ W.length + 1 := by
 unfold putW
 split
 ·rw [ins_len]; split <;> omega
 ·omega
theorem delW_len (k : Str) : (delW k W L).length ≤ W.length + 1 := by
 unfold delW
 split
 ·rw [ins_len]; split <;> omega
 ·omega
def stepB (most : Nat) (L : List Pr) (x : OpT) (W : List Pr) : List Pr := if x.1 = 0 then putW x.2.1 x.2.2 most W L else if x.1 = 1 then delW x.2.1 W L else W
def runB (most : Nat) (L : List Pr) (l : List OpT) : List Pr := l.foldl (fun W x => stepB most L x W) []
theorem runB_succ {l : List OpT} {j : Nat} {x : OpT} (h : l[j]? = some x) : runB most L (l.take (j + 1)) = stepB most L x (runB most L (l.take j)) := by
 unfold runB
 rw [List.take_add_one, h, List.foldl_append]
 rfl
theorem stepB_len (x : OpT) : (stepB most L x W).length ≤ W.length + 1 := by
 unfold stepB
 split
 ·exact putW_len _ _
 ·split
  ·exact delW_len _
  ·omega
theorem foldB_len : ∀ (l : List OpT) (W : List Pr), (l.foldl (fun W x => stepB most L x W) W).length ≤ W.length + l.length
 | [], W => by simp
 | x :: l, W => by
  have h1 := foldB_len l (stepB most L x W)
  have h2 := stepB_len (most := most) (L := L) (W := W) x
  simp only [List.foldl_cons, List.length_cons]
  omega
theorem runB_len (l : List OpT) : (runB most L l).length ≤ l.length := by
 have := foldB_len (most := most) (L := L) l []
 unfold runB
 simpa using this
def stepB2 (most : Nat) (L : List Pr) (x : OpT) (W : List Pr) : List Pr := if x.1 = 0 then putW x.2.1 x.2.2 most W L else delW x.2.1 W L
def runB2 (most : Nat) (L : List Pr) (l : List OpT) : List Pr := l.foldl (fun W x => stepB2 most L x W) []
theorem runB2_succ {l : List OpT} {j : Nat} {x : OpT} (h : l[j]? = some x) : runB2 most L (l.take (j + 1)) = stepB2 most L x (runB2 most L (l.take j)) := by
 unfold runB2
 rw [List.take_add_one, h, List.foldl_append]
 rfl
theorem stepB2_len (x : OpT) : (stepB2 most L x W).length ≤ W.length + 1 := by
 unfold stepB2
 split
 ·exact putW_len _ _
 ·exact delW_len _
theorem foldB2_len : ∀ (l : List OpT) (W : List Pr), (l.foldl (fun W x => stepB2 most L x W) W).length ≤ W.length + l.length
 | [], W => by simp
 | x :: l, W => by
  have h1 := foldB2_len l (stepB2 most L x W)
  have h2 := stepB2_len (most := most) (L := L) (W := W) x
  simp only [List.foldl_cons, List.length_cons]
  omega
theorem runB2_len (l : List OpT) : (runB2 most L l).length ≤ l.length := by
 have := foldB2_len (most := most) (L := L) l []
 unfold runB2
 simpa using this
end
end Bf
end Go.Proofs.YtecnijnmgdfdhaaGreat

namespace Go.Proofs.YtecnijnmgdfdhaaGreat
namespace Bf
open Go.RowKit Tr Tb
open Ky (less)
attribute [local go_sem] Oper.semAt_some
def wrV : Pr → List Value
 | (k, []) => [.string ⟨k.toArray⟩, .int .i64 0, .int .i64 0, .int .i64 0, .int .i64 0, .bool false]
 | (k, _ :: s) => [.string ⟨k.toArray⟩, .int .i64 (decT s).1, .int .i64 (decT s).2.1, .int .i64 (decT s).2.2.1, .int .i64 (decT s).2.2.2, .bool true]
def wrsV (L : List Pr) : List Value := L.flatMap wrV
theorem wrV_len (p : Pr) : (wrV p).length = 6 := by
 obtain ⟨k, v⟩ := p
 cases v <;> rfl
theorem flat_get {α : Type} {f : α → List Value} {n : Nat} (hf : ∀ x, (f x).length = n) : ∀ {L : List α} {j : Nat} {x : α}, L[j]? = some x → ∀ i, i < n → (L.flatMap f)[j * n + i]? = (f x)[i]?
 | [], j, x, h, _, _ => by simp at h
 | y :: L, 0, x, h, i, hi => by
  simp at h; subst h
  rw [List.flatMap_cons, Nat.zero_mul, Nat.zero_add, List.getElem?_append_left (by rw [hf]; exact hi)]
 | y :: L, j + 1, x, h, i, hi => by
  have := flat_get hf (L := L) (j := j) (x := x) (by simpa using h) i hi
  rw [List.flatMap_cons, List.getElem?_append_right (by rw [hf, Nat.succ_mul]; omega), hf, ← this, show (j + 1) * n + i - n = j * n + i by rw [Nat.succ_mul]; omega]
theorem wr_at {w : World} {a : Option Addr} {n c : Nat} {L : List Pr} (h : Rd w 6 a n c (wrsV L)) {j : Nat} {p : Pr} (hj : L[j]? = some p) :
  ∃ b o, a = some ⟨b, o, none⟩ ∧ ∀ i u, i < 6 → (wrV p)[i]? = some u → w.cell? ⟨b, o + j * 6 + i, none⟩ = some u := by
 have hg := flat_get wrV_len hj
 obtain ⟨b, o, h1, h2⟩ := h.addr (by
  intro h0
  have h3 := hg 0 (by omega)
  unfold wrsV at h0
  rw [h0] at h3
  have := wrV_len p
  have h4 : (wrV p)[0]? ≠ none := by rw [List.getElem?_eq_getElem (show 0 < (wrV p).length by omega)]; simp
  exact h4 (h3.symm.trans (by simp)))
 refine ⟨b, o, h1, fun i u hi hu => ?_⟩
 rw [Nat.add_assoc]
 exact h2 _ _ ((hg i hi).trans hu)
section
variable {B : Nat} {w0 w V : World} {X Y : List Rs} {bb tb mb rb most o n : Nat} {W L : List Pr} {a la : Option Addr} {c lk : Nat} {qs : List WQ}
theorem own_qMap (h : Own B w0 Y w) (hm : WsQ a c W qs ∈ Y) : qs.map Prod.fst = W ∧ Rd w 2 a W.length c (wsV qs) := by
 obtain ⟨_, _, F, h1, _⟩ := h
 obtain ⟨F1, e, hr, _⟩ := sepF_mem h1 hm
 exact ⟨e, hr⟩
theorem own_scratch2 {r r2 : Nat} {vs vs2 : List Value} (h : Own B w0 (CellsR r vs :: CellsR r2 vs2 :: X) w) (hf : Fr (fun b _ => b = r ∨ b = r2) w V) : Own B w0 X V := by
 refine Own.turn (L := [CellsR r vs, CellsR r2 vs2]) (L' := []) h (fun F hF => ?_)
 obtain ⟨F1, F2, e, ha, ⟨h1, _, _⟩, h6⟩ := hF
 obtain ⟨k1, _, _⟩ := SepF.get h6
 exact ⟨noCells, fun _ _ h => h, hf.mono (fun b o hb => (e b o).2 (hb.imp (h1 b o).2 (k1 b o).2)), fun _ _ h => h.elim⟩
set_option maxHeartbeats 4000000 in
set_option maxRecDepth 100000 in
theorem own_written (hW : W.length ≤ 100000) (h : Own B w0 (BufR bb tb W :: X) w) (hl : ∀ V, Own B w0 (BufR bb tb W :: X) V → Rd V 6 la W.length lk (wrsV W)) :
  Calls Tryz.prog 21 #[ptrV bb, .slice la W.length lk] w fun e V => e = .returned (.bool true) ∧ Own B w0 (BufR bb tb W :: X) V := by
 obtain ⟨N, hN⟩ : ∃ N, W.length = N := ⟨_, rfl⟩
 have hO1 := rot3 (own_cells (own_cells h #[.slice la N lk] 48) #[.bool false] 4)
 rw [World.size_alloc] at hO1
 obtain ⟨W1, hW1⟩ : ∃ W1, (w.alloc (.cells #[.slice la N lk] 48)).alloc (.cells #[.bool false] 4) = W1 := ⟨_, rfl⟩
 rw [hW1] at hO1
 have HWr := Lib.hid (own_writes hW hO1)
 have HN := Lib.hid hN
 have HLr := Lib.hid hl
 rw [hN] at HWr
 rw [hN]
 have q0 := fun x y w => eql_func_nil Tryz.underlying81 (.func 72) x y w
 obtain ⟨P0, hP0⟩ : ∃ P0, w.heap.size = P0 := ⟨_, rfl⟩
 have HP0 := Lib.hid hP0
 clear hO1 h hl hN
 refine calls_marks Tryz.func21 rfl ?_
 simp only [Tryz.ntmps21, List.size_toArray, List.length_cons, List.length_nil, Nat.reduceAdd, Nat.reduceSub, Array.replicate_succ, Array.replicate_zero, List.push_toArray, List.append_toArray, List.nil_append, List.cons_append]
 refine wpIn_wide.2 ?_
 go_wp2_with (go_at_call 44; refine HWr.out.mono ?_; rintro e V ⟨p, a, c, qs, rfl, hv⟩; have HV := Lib.hid hv; clear hv)
 obtain ⟨u, hu⟩ : ∃ u, V.heap.size = u := ⟨_, rfl⟩
 obtain ⟨V2, hV2⟩ : ∃ V2, V.alloc (.cells #[.int .i64 0] 3) = V2 := ⟨_, rfl⟩
 have HV2 : Hid (Own B w0 (CellsR u [.int .i64 0] :: CellsR p [.slice a N c] :: WsQ a c W qs :: BufR bb tb W :: CellsR (P0 + 1) [.bool false] :: CellsR P0 [.slice la N lk] :: X) V2 ∧ V2.heap.size = u + 1) := Lib.hid (by
  have h1 := own_cells HV.out #[.int .i64 0] 3
  rw [hV2, hu, HP0.out] at h1
  exact ⟨h1, by rw [← hV2, ← hu]; simp⟩)
 have HS : Hid (V2.cell? ⟨u, 0, none⟩ = some (.int .i64 0) ∧ V2.frozen? ⟨u, 0, none⟩ = false) := Lib.hid (own_cellM HV2.out.1 (i := 0) (vs := [.int .i64 0]) (by simp) rfl)
 have HK : Hid (∀ W2 : World, Fr (fun k _ => k = u) V2 W2 → Own B w0 (CellsR p [.slice a N c] :: WsQ a c W qs :: BufR bb tb W :: CellsR (P0 + 1) [.bool false] :: CellsR P0 [.slice la N lk] :: X) W2) := Lib.hid (fun W2 hf => own_scratch HV2.out.1 hf)
 have HB : Hid (∀ W2 : World, Own B w0 (CellsR p [.slice a N c] :: WsQ a c W qs :: BufR bb tb W :: CellsR (P0 + 1) [.bool false] :: CellsR P0 [.slice la N lk] :: X) W2 → Own B w0 (BufR bb tb W :: X) W2) := Lib.hid (fun W2 h => drop2 (drop2 h.drop.drop))
 have HQ := Lib.hid (own_qMap HV2.out.1 (a := a) (c := c) (W := W) (qs := qs) (by simp))
 have HLn : Hid (qs.length = N) := Lib.hid (by have := congrArg List.length HQ.out.1; rw [List.length_map, HN.out] at this; exact this)
 have HR : Hid (∀ k, (k = p ∨ (qs ≠ [] ∧ ∃ x, a = some x ∧ k = x.block)) → k < V2.heap.size ∧ k ≠ u) := Lib.hid (fun k hk => by
  have hVo := HV.out
  have hs2 := HV2.out.2
  rcases hk with rfl | ⟨hne, x, hx, rfl⟩
  ·have h1 := block_of_cell (own_cellM hVo (P := k) (vs := [.slice a N c]) (i := 0) (by simp) rfl).1
   simp at h1
   omega
  ·have h2 := (own_qMap hVo (a := a) (c := c) (W := W) (qs := qs) (by simp)).2
   obtain ⟨b, o, e, h3⟩ := h2.addr (by intro e; have := wsV_len qs; rw [e] at this; exact hne (List.eq_nil_of_length_eq_zero (by simp at this; omega)))
   rw [hx] at e
   cases e
   obtain ⟨q, hq⟩ : ∃ q, qs[0]? = some q := ⟨_, List.getElem?_eq_getElem (List.length_pos_iff.2 hne)⟩
   have h4 : b < V.heap.size := block_of_cell (h3 _ _ (wsV_get hq).1)
   show b < _ ∧ b ≠ u
   omega)
 rw [hV2]
 clear hV2 hW1
 rw [hu]
 clear hu
 refine (wpIn_wide (n := 3)).1 ?_
 refine' wpIn_range_tells (by omega) (gf := 72) (lb := #[.pointer (some ⟨p, 0, none⟩)]) rfl (enters_any Tryz.func72 (by kernel_rfl) rfl) (encs := encQ) (stops := True) (xs := qs)
  (R := fun k => k = p ∨ (qs ≠ [] ∧ ∃ x, a = some x ∧ k = x.block)) (K0 := fun _ => False) (fun o1 o2 => ?seq) (fun x => rfl) (fun k hk => (HR.out k hk).1) (fun k hk => hk.elim)
  (Boxd (fun l : List WQ => .int .i64 (l.length : Nat)) V2 u) (fun _ _ _ _ => False) (Boxd.clos (by rw [HV2.out.2]; omega))
  (fun _ _ _ _ _ _ h _ _ => h) (.inl trivial) (Boxd.start HS.out.1 HS.out.2) _ ?assign ?body ?done ?stop
 case seq =>
  have hbo : Below V2.heap.size V2 ((V2.alloc o1).alloc o2) := (al1 V2 o1).trans ((al1 (V2.alloc o1) o2).mono (by simp))
  have hcp := (own_cellM HV2.out.1 (P := p) (vs := [.slice a N c]) (i := 0) (by simp) rfl).1
  refine writes1_tells p a c qs _ _ (by rw [HLn.out, ← HN.out]; omega) (by rw [HLn.out]; exact old_cell hcp hbo) ((by have := HQ.out.2; rw [HN.out, ← HLn.out] at this; exact this : Rd V2 2 a qs.length c (wsV qs)).later hbo) (.inl rfl) (fun hne x hx => .inr ⟨hne, x, hx, rfl⟩) (fun k hk => ?_)
  have h1 := (HR.out k hk).1
  have h2 := hbo.size
  omega
 case assign =>
  intro l' x W2 K1 hK1
  simp only [encQ]
  gi_wp2
  exact hK1
 case stop =>
  intro D c K pre x post W2 _ h
  exact h.elim
 case body =>
  rintro l' K pre ⟨⟨k, v⟩, m⟩ post W2 hx _ hI
  have hlt : pre.length < N := by rw [← HLn.out, hx]; simp
  have hqj : qs[pre.length]? = some ((k, v), m) := by rw [hx]; simp
  have hWj : W[pre.length]? = some (k, v) := by rw [← HQ.out.1, List.getElem?_map, hqj]; rfl
  have HST := Lib.hid (Boxd.step (f := fun l : List WQ => Value.int .i64 (l.length : Nat)) (x := ((k, v), m)) (by rw [HV2.out.2]; omega) hI ((Below.refl _ W2).drew) (fun k => k = p ∨ (qs ≠ [] ∧ ∃ x, a = some x ∧ k = x.block)) (fun k hk => (HR.out k hk).2))
  obtain ⟨h4, h5, h6, h7⟩ := hI
  have hO := HK.out W2 h6
  have hrd := HLr.out W2 (HB.out W2 hO)
  obtain ⟨lb, lo, rfl, hz⟩ := wr_at hrd hWj
  have y0 := (own_cellM hO (P := P0) (vs := [.slice (some ⟨lb, lo, none⟩) N lk]) (i := 0) (by simp) rfl).1
  have hle := hrd.le
  have hcap := hrd.cap
  rw [HN.out] at hle
  have hrow : ∀ b s, v = b :: s → ∀ i, i < 4 → W2.cell? ⟨m, i, none⟩ = some (.int .i64 (col (decT s) i)) := fun b s e => by subst e; exact own_qRow (a := a) (c := c) (W := W) (qs := qs) hO (List.mem_cons_of_mem _ (List.mem_cons_self ..)) hqj
  obtain ⟨j, hjj⟩ : ∃ j, pre.length = j := ⟨_, rfl⟩
  dsimp only at h4
  have e1 : (pre ++ [((k, v), m)]).length = j + 1 := by simp [hjj]
  rw [e1] at HST
  rw [hjj] at h4 hz hlt
  have g1 : ¬ (N : Int) ≤ (j : Int) := by omega
  have hd : decide ((N : Int) ≤ (j : Int)) = false := by simp; omega
  have g2 : (j : Int) < (N : Int) := by omega
  have g3 : (0 : Int) ≤ (j : Int) := by omega
  have g4 : (N : Int) ≤ (lk : Int) := by omega
  have e2 : wrap64 ((j : Int) + 1) = ((j + 1 : Nat) : Int) := by rw [show ((j + 1 : Nat) : Int) = (j : Int) + 1 by omega]; exact Go.IntWalk.wrap64_in _ (by have := HN.out; omega)
  have z0 := hz 0 _ (by omega) (by cases v <;> rfl)
  rw [Nat.add_zero] at z0
  clear hx hqj hWj h6 h7 hO hrd hjj e1 hcap
  cases v with
  | nil =>
   have z5 := hz 5 _ (by omega) rfl
   clear hz hrow
   simp only [encQ, elC, ptrO, Option.map_none, Option.map_some]
   have q1 := str_neq 9 k k
   rw [show (k == k) = true by simp] at q1
   gi_wp2
   refine wpIn_region_still_tail 37 (fun _ => trivial) rfl (fun _ _ _ _ h => calls_round l' h) (by kernel_rfl) (by kernel_rfl) (by kernel_rfl) ?_
   simp only [List.take_succ_cons, List.take_zero, List.drop_succ_cons, List.drop_zero]
   repeat (first | ((with_reducible refine wpStill_step (fun K hK => ?_)); go_simp; (with_reducible refine hK _ ?_); clear hK K) | ((with_reducible refine wpStill_pass ?hp ?_); case hp => kernel_rfl))
   with_reducible refine wpStill_nil ?_
   gi_wp2
   exact HST.out
  | cons b s =>
   have z1 := hz 1 _ (by omega) rfl
   have z2 := hz 2 _ (by omega) rfl
   have z3 := hz 3 _ (by omega) rfl
   have z4 := hz 4 _ (by omega) rfl
   have z5 := hz 5 _ (by omega) rfl
   have hrow := hrow b s rfl
   clear hz
   simp only [encQ, elC, ptrO, Option.map_none, Option.map_some]
   have q1 := str_neq 9 k k
   rw [show (k == k) = true by simp] at q1
   obtain ⟨⟨r0, r1, r2, r3⟩, hr4⟩ : ∃ r4, decT s = r4 := ⟨_, rfl⟩
   simp only [hr4] at z1 z2 z3 z4
   rw [hr4] at hrow
   have b0 := hrow 0 (by omega)
   have b1 := hrow 1 (by omega)
   have b2 := hrow 2 (by omega)
   have b3 := hrow 3 (by omega)
   simp only [col, Rw.rowF] at b0 b1 b2 b3
   clear hr4
   have q2 := Rw.neqRow r0 r1 r2 r3 r0 r1 r2 r3 true (by simp)
   clear hrow
   gi_wp2
   refine wpIn_region_still_tail 37 (fun _ => trivial) rfl (fun _ _ _ _ h => calls_round l' h) (by kernel_rfl) (by kernel_rfl) (by kernel_rfl) ?_
   simp only [List.take_succ_cons, List.take_zero, List.drop_succ_cons, List.drop_zero]
   repeat (first | ((with_reducible refine wpStill_step (fun K hK => ?_)); go_simp; (with_reducible refine hK _ ?_); clear hK K) | ((with_reducible refine wpStill_pass ?hp ?_); case hp => kernel_rfl))
   with_reducible refine wpStill_nil ?_
   gi_wp2
   exact HST.out
 case done =>
  rintro D K W3 ⟨h4, h5, h6, h7⟩ _ hKD hsD hDef
  have hO := HK.out W3 h6
  have y0 := (own_cellM hO (P := P0) (vs := [.slice la N lk]) (i := 0) (by simp) rfl).1
  obtain ⟨y1, y2⟩ := own_cellM hO (P := P0 + 1) (vs := [.bool false]) (i := 0) (by simp) rfl
  simp only [HLn.out] at h4
  have H3 := Lib.hid (And.intro h6 (And.intro hsD hDef))
  have hd : decide ((N : Int) = (N : Int)) = true := by simp
  have hP1 : P0 + 1 < V2.heap.size := block_of_cell (own_cellM HV2.out.1 (P := P0 + 1) (vs := [.bool false]) (i := 0) (by simp) rfl).1
  clear h6 h7 hKD hsD hDef hO
  gi_wp2
  go_wp2
  obtain ⟨h6, hsD, hDef⟩ := H3.out
  have hne : D ≠ P0 + 1 := by omega
  refine leave_marks [D] _ (by simp) (fun E hE => ?_) (fun W' hf => ?_)
  ·simp at hE; subst hE
   exact (Below.heap_setCell W3 ⟨P0 + 1, 0, none⟩ (.bool true) E hne).trans hDef
  ·have hc : W'.cell? ⟨P0 + 1, 0, none⟩ = some (.bool true) := cell_fr hf (show (W3.setCell ⟨P0 + 1, 0, none⟩ (.bool true)).cell? ⟨P0 + 1, 0, none⟩ = some (.bool true) from World.cell?_setCell_same' _ _ _ (by rw [y1]; rfl)) (by simp; omega)
   have hfr : Fr (fun b _ => b = u ∨ b = P0 + 1) V2 W' := ((h6.mono (fun _ _ e => .inl e)).trans (fr_own' W3 (P0 + 1) (.bool true)) (fun b o e => .inl (.inr e.1))).trans hf (fun b o hb => .inr (by simp at hb; omega))
   have hp := HV2.out.1.perm ((List.perm_middle (l₁ := [CellsR p [.slice a N c], WsQ a c W qs, BufR bb tb W])).cons (CellsR u [.int .i64 0]))
   exact ⟨_, results_bool rfl _ W' (P0 + 1) (.bool true) rfl hc, rfl, drop2 (own_scratch2 hp hfr).drop.drop⟩
end
end Bf
end Go.Proofs.YtecnijnmgdfdhaaGreat

namespace Go.Proofs.YtecnijnmgdfdhaaGreat
namespace Bf
open Go.RowKit Tr Tb
open Ky (less)
def Yes (w : World) (e : Ending) (V : World) : Prop := e = .returned (.bool true) ∧ Below w.heap.size w V
structure GoodOps (w : World) (a : Option Addr) (c : Nat) (l : List OpT) : Prop where
 rd : Rd w 6 a l.length c (opsV l)
 ok : ∀ x ∈ l, OkOp x
theorem GoodOps.later {w V : World} {a : Option Addr} {c : Nat} {l : List OpT} (h : GoodOps w a c l) (hb : Below w.heap.size w V) : GoodOps V a c l := ⟨h.rd.later hb, h.ok⟩
theorem GoodOps.few {w : World} {a : Option Addr} {c : Nat} {l : List OpT} (h : GoodOps w a c l) : Calls Tryz.prog 31 #[.slice a l.length c] w fun e w' => e = .returned (.bool (decide (fewT l))) ∧ w = w' := by
 have h1 := h.rd.cap
 have h2 := h.rd.le
 unfold maxLen at h1
 exact few_any a c l (by omega) h.ok w h.rd
theorem own_rdM {B : Nat} {w0 w : World} {Y : List Rs} {a : Option Addr} {n c size : Nat} {xs : List Value} (h : Own B w0 Y w) (hm : SlR size a n c xs ∈ Y) : Rd w size a n c xs := by
 obtain ⟨_, _, F, hs, _⟩ := h
 obtain ⟨F1, h1, _⟩ := sepF_mem hs hm
 exact h1.rd
theorem few8_any (a : Option Addr) (c : Nat) (l : List OpT) (q : Option Addr) (d : Nat) (m : List OpT) (w : World) (h1 : GoodOps w a c l) (h2 : GoodOps w q d m) :
  Calls Tryz.prog 11 #[.agg #[.slice a l.length c, .slice q m.length d]] w fun e V => e = .returned (.bool (decide (fewT l ∧ fewT m))) ∧ Below w.heap.size w V := by
 have hb := al1 w (.cells #[.slice a l.length c, .slice q m.length d] 24)
 have HB := Lib.hid hb
 have HF1 := Lib.hid ((h1.later hb).few)
 have HF2 := Lib.hid ((h2.later hb).few)
 have tok1 : True := trivial
 by_cases hf : fewT l
 ·by_cases hf2 : fewT m
  ·have e1 : decide (fewT l) = true := by simpa using hf
   have e2 : decide (fewT m) = true := by simpa using hf2
   have e3 : decide (fewT l ∧ fewT m) = true := by simp [hf, hf2]
   rw [e3]
   rw [e1] at HF1
   rw [e2] at HF2
   clear hb e1 e2 e3 hf hf2 h1 h2
   go_enter Tryz.func11, Tryz.ntmps11
   go_wp2_with (first
    | (go_at_call 31; have _t := tok1; refine HF1.out.mono ?_; rintro e V1 ⟨rfl, rfl⟩; clear tok1 _t)
    | (go_at_call 31; refine HF2.out.mono ?_; rintro e V1 ⟨rfl, rfl⟩))
   go_ret
   exact ⟨rfl, HB.out⟩
  ·have e1 : decide (fewT l) = true := by simpa using hf
   have e2 : decide (fewT m) = false := by simpa using hf2
   have e3 : decide (fewT l ∧ fewT m) = false := by simp [hf2]
   rw [e3]
   rw [e1] at HF1
   rw [e2] at HF2
   clear hb e1 e2 e3 hf hf2 h1 h2
   go_enter Tryz.func11, Tryz.ntmps11
   go_wp2_with (first
    | (go_at_call 31; have _t := tok1; refine HF1.out.mono ?_; rintro e V1 ⟨rfl, rfl⟩; clear tok1 _t)
    | (go_at_call 31; refine HF2.out.mono ?_; rintro e V1 ⟨rfl, rfl⟩))
   go_ret
   exact ⟨rfl, HB.out⟩
 ·have e1 : decide (fewT l) = false := by simpa using hf
  have e3 : decide (fewT l ∧ fewT m) = false := by simp [hf]
  rw [e3]
  rw [e1] at HF1
  clear hb e1 e3 hf h1 h2 HF2
  go_enter Tryz.func11, Tryz.ntmps11
  go_wp2_with (go_at_call 31; refine HF1.out.mono ?_; rintro e V1 ⟨rfl, rfl⟩)
  go_ret
  exact ⟨rfl, HB.out⟩
end Bf
end Go.Proofs.YtecnijnmgdfdhaaGreat
