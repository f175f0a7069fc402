/- Joined: Tab7. -/
import Derived.Test.YtecnijnmgdfdhaaGreatYTabB
import Derived.Test.YtecnijnmgdfdhaaGreatYSep
namespace Go.Proofs.YtecnijnmgdfdhaaGreat
namespace Tb
open Go.RowKit Tr
open Ky (less)
theorem sepF_mem {w : World} {A : Rs} : ∀ {L : List Rs} {F : Foot}, SepF L w F → A ∈ L → ∃ F1, A.R w F1
 | [], _, _, hm => by cases hm
 | R :: L, _, ⟨F1, F2, _, _, h1, h2⟩, hm => by
  rcases List.mem_cons.1 hm with rfl | hm
  ·exact ⟨F1, h1⟩
  ·exact sepF_mem h2 hm
section
variable {B : Nat} {w0 w V : World} {X Y : List Rs} {tb most o : Nat} {L : List Pr} {k : Str}
theorem own_cellM {P : Nat} {vs : List Value} (h : Own B w0 Y w) (hm : CellsR P vs ∈ Y) {i : Nat} {v : Value} (hv : vs[i]? = some v) : w.cell? ⟨P, i, none⟩ = some v ∧ w.frozen? ⟨P, i, none⟩ = false := by
 obtain ⟨_, _, F, hs, _⟩ := h
 obtain ⟨F1, hR⟩ := sepF_mem hs hm
 exact hR.2.2 i v hv
theorem own_rowM {p : Nat} {r : R4} (h : Own B w0 Y w) (hm : CellsR p (r4V r) ∈ Y) : w.cell? ⟨p, 0, none⟩ = some (.int .i64 r.1) ∧ w.cell? ⟨p, 1, none⟩ = some (.int .i64 r.2.1) ∧ w.cell? ⟨p, 2, none⟩ = some (.int .i64 r.2.2.1) ∧ w.cell? ⟨p, 3, none⟩ = some (.int .i64 r.2.2.2) :=
 ⟨(own_cellM h hm (i := 0) rfl).1, (own_cellM h hm (i := 1) rfl).1, (own_cellM h hm (i := 2) rfl).1, (own_cellM h hm (i := 3) rfl).1⟩
theorem own_zeroM {r : Nat} (h : Own B w0 Y w) (hm : CellsR r (r4V zr) ∈ Y) : Rw.RowVar w r [] := by
 intro i hi
 have : i = 0 ∨ i = 1 ∨ i = 2 ∨ i = 3 := by omega
 rcases this with rfl | rfl | rfl | rfl
 ·exact own_cellM h hm (i := 0) rfl
 ·exact own_cellM h hm (i := 1) rfl
 ·exact own_cellM h hm (i := 2) rfl
 ·exact own_cellM h hm (i := 3) rfl
theorem own_ptrM {p : Nat} {r : R4} (h : Own B w0 Y w) (hm : CellsR p (r4V r) ∈ Y) : Rw.PtrAt w (some (p, 0)) (some (col r)) := by
 obtain ⟨x0, x1, x2, x3⟩ := own_rowM h hm
 intro i hi
 rw [Nat.zero_add]
 have : i = 0 ∨ i = 1 ∨ i = 2 ∨ i = 3 := by omega
 rcases this with rfl | rfl | rfl | rfl
 ·exact x0
 ·exact x1
 ·exact x2
 ·exact x3
theorem turn_len (ok : TOk most L) (hs : Sorted L) (k : Str) (now : Option R4) (i : Nat) : (upd (tabLs L) 0 (rowsTo k now L) i).length ≤ 50000 := by
 unfold upd
 split
 ·have h3 := ok.len
  have h4 := ok.hi
  cases now with
  | none =>
   show (del k L).length ≤ 50000
   have h2 := del_len k L
   split at h2 <;> omega
  | some r =>
   show (ins (k, encT r) L).length ≤ 50000
   have h2 := ins_len (k, encT r) L
   split at h2 <;> omega
 ·have := tab_len (tb := 0) (o := 0) ok hs i
  omega
theorem own_turned {b : Nat → Nat} {now : Option R4} (h : Own B w0 (tabS tb most o b (upd (tabLs L) 0 (rowsTo k now L)) ++ Y) w) (ok : TOk most L) (hs : Sorted L) (hk : Ks.okKey k = true) (hn : ∀ r, now = some r → In4 r) (p q : Option (Nat × Nat))
  (hp : Rw.PtrAt w p (((get k L).map decT).map col)) (hq : Rw.PtrAt w q (now.map col)) :
  Calls Tryz.prog 70 #[ptrV tb, .string ⟨k.toArray⟩, Rw.ptrV p, Rw.ptrV q] w fun e V2 => (∃ v, e = .returned v) ∧ Own B w0 (tabS tb most o b (tabLs (rowsTo k now L)) ++ Y) V2 := by
 refine (turn_any h (turn_len ok hs k now) k hk p q ((get k L).map decT) now (fun r e => ?_) hn hp hq).mono ?_
 ·cases hg : get k L with
  | none => rw [hg] at e; cases e
  | some s => rw [hg] at e; cases e; exact (ok.ok.got hg hs).1
 ·rintro e V2 ⟨hv, h2⟩
  rw [tab_turned ok.ok hs hk now hn] at h2
  exact ⟨hv, h2⟩
set_option maxHeartbeats 16000000 in
set_option maxRecDepth 100000 in
theorem own_tabPut (k : Str) (r : R4) (hr : In4 r) (h : Own B w0 (TabR tb most o L :: X) w) :
  Calls Tryz.prog 42 #[ptrV tb, .string ⟨k.toArray⟩, rowW r] w fun e V => e = .returned (.tuple #[rowW (getR k L), .bool (putB k L), .int .i64 (putE k most L)]) ∧ Own B w0 (TabR tb most o (putT k r most L) :: X) V := by
 obtain ⟨r0, r1, r2, r3⟩ := r
 show Calls _ _ #[ptrV tb, .string ⟨k.toArray⟩, .agg #[.int .i64 r0, .int .i64 r1, .int .i64 r2, .int .i64 r3]] _ _
 have hZ := own_newRow (own_newRow h (r0, r1, r2, r3) 41) zr 41
 rw [World.size_alloc] at hZ
 obtain ⟨W1, hW1⟩ : ∃ W1, (w.alloc (.cells #[.int .i64 r0, .int .i64 r1, .int .i64 r2, .int .i64 r3] 41)).alloc (.cells #[.int .i64 0, .int .i64 0, .int .i64 0, .int .i64 0] 41) = W1 := ⟨_, rfl⟩
 have hZ : Own B w0 (CellsR (w.heap.size + 1) (r4V zr) :: CellsR w.heap.size (r4V (r0, r1, r2, r3)) :: TabR tb most o L :: X) W1 := by rw [← hW1]; exact hZ
 have hs : Sorted L := own_tabSorted (hZ.drop.drop)
 have ok := own_tabOk (hZ.drop.drop)
 have HZ := Lib.hid hZ
 have HC := Lib.hid (fun W => checkTb_any tb k W)
 have HLen := Lib.hid (fun V (hb : Below W1.heap.size W1 V) => own_tabLen ((HZ.out.later hb).drop.drop))
 obtain ⟨N, hN⟩ : ∃ N, L.length = N := ⟨_, rfl⟩
 have HN := Lib.hid hN
 rw [hN] at HLen
 have HOk := Lib.hid ok
 have HSo := Lib.hid hs
 have HIn := Lib.hid hr
 clear h hZ hs ok hr hN
 unfold putB putE putT getR
 cases hkey : Ks.okKey k with
 | false =>
  rw [show Ks.chk k = 13 by unfold Ks.chk; rw [hkey]; rfl] at HC
  have hpe : putE k most L = 13 := by unfold putE; rw [hkey]; rfl
  rw [hpe]
  have hv := own_zero HZ.out
  have f0 := (hv 0 (by omega)).1
  have g0 := (hv 0 (by omega)).2
  have f1 := (hv 1 (by omega)).1
  have g1 := (hv 1 (by omega)).2
  have f2 := (hv 2 (by omega)).1
  have g2 := (hv 2 (by omega)).2
  have f3 := (hv 3 (by omega)).1
  have g3 := (hv 3 (by omega)).2
  clear hpe hkey
  go_enter Tryz.func42, Tryz.ntmps42
  go_wp2_with (go_at_call 61; refine (HC.out _).mono ?_; rintro e V ⟨rfl, rfl⟩)
  have t4 := Rw.four_set W1 (w.heap.size + 1) [] (.int .i64 0) (.int .i64 0) (.int .i64 0) (.int .i64 0) hv
  refine bodyPost_ret (v := .tuple #[rowW zr, .bool false, .int .i64 13]) (by simp [results, Tryz.results42, go_sem, t4.1, t4.2.1, t4.2.2.1, t4.2.2.2, rowW, zr]) rfl ?_
  exact ⟨rfl, (own_scratch HZ.out (four_fr (w.heap.size + 1) (.int .i64 0) (.int .i64 0) (.int .i64 0) (.int .i64 0) W1)).drop⟩
 | true =>
  rw [show Ks.chk k = 0 by unfold Ks.chk; rw [hkey]; rfl] at HC
  have HK := Lib.hid hkey
  obtain ⟨_, b, hS⟩ := own_tab (HZ.out.perm (List.perm_middle (l₁ := [_, _])))
  have HS := Lib.hid hS
  have hS0 := hS
  clear hS
  obtain ⟨bs, hbs⟩ : ∃ bs, encT (r0, r1, r2, r3) = bs := ⟨_, rfl⟩
  have HEn : Hid (∀ W, Calls Tryz.prog 69 #[.agg #[.int .i64 r0, .int .i64 r1, .int .i64 r2, .int .i64 r3]] W (GivesB W bs)) := Lib.hid (fun W => by rw [← hbs]; exact Rw.encode_any r0 r1 r2 r3 HIn.out W)
  have HBs := Lib.hid hbs
  have HRows := Lib.hid (fun (V : World) (Y : List Rs) (h : Own B w0 (tabS tb most o b (tabLs L) ++ Y) V) => rows_any h)
  have HPt : Hid (∀ (V : World) (Y : List Rs), Own B w0 (tabS tb most o b (tabLs L) ++ Y) V → Calls Tryz.prog 68 #[ptrV (b 0), .string ⟨k.toArray⟩, .string ⟨bs.toArray⟩] V fun e V2 => (∃ v, e = .returned v) ∧ Own B w0 (tabS tb most o b (upd (tabLs L) 0 (rowsTo k (some (r0, r1, r2, r3)) L)) ++ Y) V2) := Lib.hid (fun V Y h => by
   refine (own_tput 0 (by omega) k bs h (by show L.length ≤ _; have := HOk.out.len; have := HOk.out.hi; omega)).mono ?_
   rintro e V2 ⟨rfl, h2⟩
   rw [show putL k bs (tabLs L 0) = rowsTo k (some (r0, r1, r2, r3)) L by rw [← HBs.out]; exact putL_rows HK.out HIn.out L] at h2
   exact ⟨⟨_, rfl⟩, h2⟩)
  clear hbs hkey
  cases hg : get k L with
  | none =>
   have HLk := Lib.hid (look_none HS.out rfl k HK.out hg)
   have HG := Lib.hid hg
   have HM := Lib.hid (fun V (hb : Below W1.heap.size W1 V) => own_tcell (HS.out.later hb) (i := 0) rfl)
   by_cases hfull : most ≤ N
   ·have k1 : (most : Int) ≤ (N : Int) := by omega
    have hpe : putE k most L = 16 := by unfold putE; rw [HK.out, hg, HN.out]; simp [hfull]
    rw [hpe]
    simp only [if_true, hg, HN.out, Option.isNone_none, Option.isSome_none, Bool.true_and, Bool.and_false, decide_eq_true hfull]
    clear hpe hg hS0
    go_enter Tryz.func42, Tryz.ntmps42
    go_wp2_with (first
     | (go_at_call 61; refine (HC.out _).mono ?_; rintro e V ⟨rfl, rfl⟩)
     | (go_at_call 62; refine HLk.out.mono ?_; rintro e V ⟨rfl, hb⟩; have HB2 := Lib.hid hb; have hv := own_zero (HZ.out.later hb); have m0 := HM.out _ hb; clear hb; have f0 := (hv 0 (by omega)).1; have g0 := (hv 0 (by omega)).2; have f1 := (hv 1 (by omega)).1; have g1 := (hv 1 (by omega)).2; have f2 := (hv 2 (by omega)).1; have g2 := (hv 2 (by omega)).2; have f3 := (hv 3 (by omega)).1; have g3 := (hv 3 (by omega)).2))
    refine wp_region_held_drew (S := (fun V => V.cell? ⟨tb, 0, none⟩ = some (.int .i64 most))) (by kernel_rfl) m0 (fun hH0a => ?_)
    refine zzT (i := 0) (v := ?va0) rfl (by kernel_rfl) (fun _ _ _ h => h) ?ha0 hH0a ?ra0
    case ha0 => (intro W h; (try dsimp only at h); go_simp; all_goals (with_reducible rfl))
    try simp only [zzA, zzB, zzC, Act.put, zzD, zzE, zzF]
    refine zzT (i := 1) (v := ?va1) rfl (by kernel_rfl) (fun _ _ _ h => h) ?ha1 hH0a ?ra1
    case ha1 => (intro W h; (try dsimp only at h); go_simp; all_goals (with_reducible rfl))
    try simp only [zzA, zzB, zzC, Act.put, zzD, zzE, zzF]
    refine zzT (i := 2) (v := ?va2) rfl (by kernel_rfl) (fun _ _ _ h => h) ?ha2 hH0a ?ra2
    case ha2 => (intro W h; (try dsimp only at h); go_simp; all_goals (with_reducible rfl))
    try simp only [zzA, zzB, zzC, Act.put, zzD, zzE, zzF]
    refine zzT (i := 3) (v := ?va3) rfl (by kernel_rfl) (fun _ _ _ h => h) ?ha3 hH0a ?ra3
    case ha3 => (intro W h; (try dsimp only at h); go_simp; all_goals (with_reducible rfl))
    try simp only [zzA, zzB, zzC, Act.put, zzD, zzE, zzF]
    refine zzT (i := 5) (v := ?va5) rfl (by kernel_rfl) (fun _ _ _ h => h) ?ha5 hH0a ?ra5
    case ha5 => (intro W h; (try dsimp only at h); go_simp; all_goals (with_reducible rfl))
    try simp only [zzA, zzB, zzC, Act.put, zzD, zzE, zzF]
    refine zzT (i := 6) (v := ?va6) rfl (by kernel_rfl) (fun _ _ _ h => h) ?ha6 hH0a ?ra6
    case ha6 => (intro W h; (try dsimp only at h); go_simp; all_goals (with_reducible rfl))
    try simp only [zzA, zzB, zzC, Act.put, zzD, zzE, zzF]
    refine zzT (i := 7) (v := ?va7) rfl (by kernel_rfl) (fun _ _ _ h => h) ?ha7 hH0a ?ra7
    case ha7 => (intro W h; (try dsimp only at h); go_simp; all_goals (with_reducible rfl))
    try simp only [zzA, zzB, zzC, Act.put, zzD, zzE, zzF]
    refine zzT (i := 8) (v := ?va8) rfl (by kernel_rfl) (fun _ _ _ h => h) ?ha8 hH0a ?ra8
    case ha8 => (intro W h; (try dsimp only at h); go_simp; all_goals (with_reducible rfl))
    try simp only [zzA, zzB, zzC, Act.put, zzD, zzE, zzF]
    refine wpAnyH_ready (rs := [4]) (by kernel_rfl) (by simp) ?_
    refine AllReadyH.cons rfl (fun K hK => ?_) AllReadyH.nil
    simp only [zzA, zzB, zzC]
    go_simp
    (go_at_call 26; refine (HLen.out _ (HB2.out.trans (below_drewN _ 1 |>.mono HB2.out.size))).mono ?_; rintro e V4 ⟨rfl, rfl⟩)
    refine hK.out _ _ (hH0a) (fun hH1a => ?_)
    clear hK K hH0a
    try simp only [zzA, zzB, zzC, Act.put, zzD, zzE, zzF]
    refine zzT (i := 9) (v := ?va9) rfl (by kernel_rfl) (fun _ _ _ h => h) ?ha9 hH1a ?ra9
    case ha9 => (intro W h; (try dsimp only at h); go_simp; all_goals (with_reducible rfl))
    try simp only [zzA, zzB, zzC, Act.put, zzD, zzE, zzF]
    refine zzT (i := 10) (v := ?va10) rfl (by kernel_rfl) (fun _ _ _ h => h) ?ha10 hH1a ?ra10
    case ha10 => (intro W h; (try dsimp only at h); go_simp; all_goals (with_reducible rfl))
    try simp only [zzA, zzB, zzC, Act.put, zzD, zzE, zzF]
    refine wpAnyH_done (by kernel_rfl) ?_ _
    go_wp2
    have t4 := Rw.four_set _ (w.heap.size + 1) [] (.int .i64 0) (.int .i64 0) (.int .i64 0) (.int .i64 0) (hv.later (below_drewN V 1))
    refine bodyPost_ret (v := .tuple #[rowW zr, .bool false, .int .i64 16]) (by simp [results, Tryz.results42, go_sem, t4.1, t4.2.1, t4.2.2.1, t4.2.2.2, rowW, zr]) rfl ?_
    exact ⟨by simp, (own_scratch ((HZ.out.later HB2.out).later (below_drewN V 1)) (four_fr (w.heap.size + 1) (.int .i64 0) (.int .i64 0) (.int .i64 0) (.int .i64 0) _)).drop⟩
   ·have k1 : ¬ (most : Int) ≤ (N : Int) := by omega
    have hpe : putE k most L = 0 := by unfold putE; rw [HK.out, hg, HN.out]; simp [hfull]
    rw [hpe]
    simp only [if_true, hg, HN.out, Option.isNone_none, Option.isSome_none, Bool.true_and, Bool.and_false, decide_eq_false hfull]
    have HTn : Hid (∀ (V : World) (Y : List Rs), Own B w0 (tabS tb most o b (upd (tabLs L) 0 (rowsTo k (some (r0, r1, r2, r3)) L)) ++ (CellsR (w.heap.size + 1) (r4V zr) :: CellsR w.heap.size (r4V (r0, r1, r2, r3)) :: Y)) V → Calls Tryz.prog 70 #[ptrV tb, .string ⟨k.toArray⟩, .pointer none, .pointer (some ⟨w.heap.size, 0, none⟩)] V fun e V2 => (∃ v, e = .returned v) ∧ Own B w0 (tabS tb most o b (tabLs (rowsTo k (some (r0, r1, r2, r3)) L)) ++ (CellsR (w.heap.size + 1) (r4V zr) :: CellsR w.heap.size (r4V (r0, r1, r2, r3)) :: Y)) V2) := Lib.hid (fun V Y h =>
     own_turned h HOk.out HSo.out HK.out (fun r e => by cases e; exact HIn.out) none (some (w.heap.size, 0)) (by rw [HG.out]; trivial) (own_ptrM h (by simp)))
    clear hpe hg hS0
    go_enter Tryz.func42, Tryz.ntmps42
    go_wp2_with (first
     | (go_at_call 61; refine (HC.out _).mono ?_; rintro e V ⟨rfl, rfl⟩)
     | (go_at_call 62; refine HLk.out.mono ?_; rintro e V ⟨rfl, hb⟩; have HB2 := Lib.hid hb; have m0 := HM.out _ hb; clear hb))
    refine wp_region_held_drew (S := (fun V => V.cell? ⟨tb, 0, none⟩ = some (.int .i64 most))) (by kernel_rfl) m0 (fun hH0d => ?_)
    refine zzT (i := 0) (v := ?vd0) rfl (by kernel_rfl) (fun _ _ _ h => h) ?hd0 hH0d ?rd0
    case hd0 => (intro W h; (try dsimp only at h); go_simp; all_goals (with_reducible rfl))
    try simp only [zzA, zzB, zzC, Act.put, zzD, zzE, zzF]
    refine zzT (i := 1) (v := ?vd1) rfl (by kernel_rfl) (fun _ _ _ h => h) ?hd1 hH0d ?rd1
    case hd1 => (intro W h; (try dsimp only at h); go_simp; all_goals (with_reducible rfl))
    try simp only [zzA, zzB, zzC, Act.put, zzD, zzE, zzF]
    refine zzT (i := 2) (v := ?vd2) rfl (by kernel_rfl) (fun _ _ _ h => h) ?hd2 hH0d ?rd2
    case hd2 => (intro W h; (try dsimp only at h); go_simp; all_goals (with_reducible rfl))
    try simp only [zzA, zzB, zzC, Act.put, zzD, zzE, zzF]
    refine zzT (i := 3) (v := ?vd3) rfl (by kernel_rfl) (fun _ _ _ h => h) ?hd3 hH0d ?rd3
    case hd3 => (intro W h; (try dsimp only at h); go_simp; all_goals (with_reducible rfl))
    try simp only [zzA, zzB, zzC, Act.put, zzD, zzE, zzF]
    refine zzT (i := 5) (v := ?vd5) rfl (by kernel_rfl) (fun _ _ _ h => h) ?hd5 hH0d ?rd5
    case hd5 => (intro W h; (try dsimp only at h); go_simp; all_goals (with_reducible rfl))
    try simp only [zzA, zzB, zzC, Act.put, zzD, zzE, zzF]
    refine zzT (i := 6) (v := ?vd6) rfl (by kernel_rfl) (fun _ _ _ h => h) ?hd6 hH0d ?rd6
    case hd6 => (intro W h; (try dsimp only at h); go_simp; all_goals (with_reducible rfl))
    try simp only [zzA, zzB, zzC, Act.put, zzD, zzE, zzF]
    refine zzT (i := 7) (v := ?vd7) rfl (by kernel_rfl) (fun _ _ _ h => h) ?hd7 hH0d ?rd7
    case hd7 => (intro W h; (try dsimp only at h); go_simp; all_goals (with_reducible rfl))
    try simp only [zzA, zzB, zzC, Act.put, zzD, zzE, zzF]
    refine zzT (i := 8) (v := ?vd8) rfl (by kernel_rfl) (fun _ _ _ h => h) ?hd8 hH0d ?rd8
    case hd8 => (intro W h; (try dsimp only at h); go_simp; all_goals (with_reducible rfl))
    try simp only [zzA, zzB, zzC, Act.put, zzD, zzE, zzF]
    refine wpAnyH_ready (rs := [4]) (by kernel_rfl) (by simp) ?_
    refine AllReadyH.cons rfl (fun K hK => ?_) AllReadyH.nil
    simp only [zzA, zzB, zzC]
    go_simp
    (go_at_call 26; refine (HLen.out _ (HB2.out.trans (below_drewN _ 1 |>.mono HB2.out.size))).mono ?_; rintro e V4 ⟨rfl, rfl⟩)
    refine hK.out _ _ (hH0d) (fun hH1d => ?_)
    clear hK K hH0d
    try simp only [zzA, zzB, zzC, Act.put, zzD, zzE, zzF]
    refine zzT (i := 9) (v := ?vd9) rfl (by kernel_rfl) (fun _ _ _ h => h) ?hd9 hH1d ?rd9
    case hd9 => (intro W h; (try dsimp only at h); go_simp; all_goals (with_reducible rfl))
    try simp only [zzA, zzB, zzC, Act.put, zzD, zzE, zzF]
    refine zzT (i := 10) (v := ?vd10) rfl (by kernel_rfl) (fun _ _ _ h => h) ?hd10 hH1d ?rd10
    case hd10 => (intro W h; (try dsimp only at h); go_simp; all_goals (with_reducible rfl))
    try simp only [zzA, zzB, zzC, Act.put, zzD, zzE, zzF]
    refine wpAnyH_done (by kernel_rfl) ?_ _
    go_wp2
    have HO7 := Lib.hid ((HS.out.later HB2.out).later (below_drewN V 1))
    obtain ⟨x0, x1, x2, x3⟩ := own_rowM (p := w.heap.size) (r := (r0, r1, r2, r3)) HO7.out (by simp)
    clear m0
    refine wp_region_held_drew (S := (fun V => V.cell? ⟨w.heap.size, 0, none⟩ = some (.int .i64 r0) ∧ V.cell? ⟨w.heap.size, 1, none⟩ = some (.int .i64 r1) ∧ V.cell? ⟨w.heap.size, 2, none⟩ = some (.int .i64 r2) ∧ V.cell? ⟨w.heap.size, 3, none⟩ = some (.int .i64 r3))) (by kernel_rfl) ⟨x0, x1, x2, x3⟩ (fun hH0b => ?_)
    refine zzT (i := 0) (v := ?vb0) rfl (by kernel_rfl) (fun _ _ _ h => h) ?hb0 hH0b ?rb0
    case hb0 => (intro W h; (try dsimp only at h); go_simp; all_goals (with_reducible rfl))
    try simp only [zzA, zzB, zzC, Act.put, zzD, zzE, zzF]
    refine zzT (i := 2) (v := ?vb2) rfl (by kernel_rfl) (fun _ _ _ h => h) ?hb2 hH0b ?rb2
    case hb2 => (intro W h; (try dsimp only at h); go_simp; all_goals (with_reducible rfl))
    try simp only [zzA, zzB, zzC, Act.put, zzD, zzE, zzF]
    refine zzT (i := 3) (v := ?vb3) rfl (by kernel_rfl) (fun _ _ _ h => h) ?hb3 hH0b ?rb3
    case hb3 => (intro W h; (try dsimp only at h); go_simp; all_goals (with_reducible rfl))
    try simp only [zzA, zzB, zzC, Act.put, zzD, zzE, zzF]
    refine wpAnyH_ready (rs := [1]) (by kernel_rfl) (by simp) ?_
    refine AllReadyH.cons rfl (fun K hK => ?_) AllReadyH.nil
    simp only [zzA, zzB, zzC]
    go_simp
    (go_at_call 53; refine (HRows.out _ _ (HO7.out.later (Below.refl _ _).drew)).mono ?_; rintro e V4 ⟨rfl, rfl⟩)
    refine hK.out _ _ (hH0b) (fun hH1b => ?_)
    clear hK K hH0b
    try simp only [zzA, zzB, zzC, Act.put, zzD, zzE, zzF]
    refine wpAnyH_ready (rs := [4]) (by kernel_rfl) (by simp) ?_
    refine AllReadyH.cons rfl (fun K hK => ?_) AllReadyH.nil
    simp only [zzA, zzB, zzC]
    go_simp
    (go_at_call 69; refine (HEn.out _).mono ?_; rintro e V5 ⟨ea, ec, rfl, hrd, hb5⟩)
    have H5 := Lib.hid (HO7.out.later ((Below.refl _ _).drew.trans hb5))
    have hcv := conv_str hrd
    refine hK.out _ _ (⟨old_cell hH1b.1 hb5, old_cell hH1b.2.1 hb5, old_cell hH1b.2.2.1 hb5, old_cell hH1b.2.2.2 hb5⟩) (fun hH2b => ?_)
    clear hK K hH1b
    try simp only [zzA, zzB, zzC, Act.put, zzD, zzE, zzF]
    refine wpAnyH_ready (rs := [5]) (by kernel_rfl) (by simp) ?_
    refine AllReadyH.cons rfl (fun K hK => ?_) AllReadyH.nil
    simp only [zzA, zzB, zzC]
    go_simp
    refine hK.out _ _ (hH2b) (fun hH3b => ?_)
    clear hK K hH2b
    try simp only [zzA, zzB, zzC, Act.put, zzD, zzE, zzF]
    refine wpAnyH_ready (rs := [6]) (by kernel_rfl) (by simp) ?_
    refine AllReadyH.cons rfl (fun K hK => ?_) AllReadyH.nil
    simp only [zzA, zzB, zzC]
    go_simp
    (go_at_call 68; refine (HPt.out _ _ H5.out).mono ?_; rintro e V6 ⟨⟨v6, rfl⟩, h6⟩; have H6 := Lib.hid h6; clear h6)
    have y := own_rowM (p := w.heap.size) (r := (r0, r1, r2, r3)) H6.out (by simp)
    refine hK.out _ _ (y) (fun hH4b => ?_)
    clear hK K hH3b
    try simp only [zzA, zzB, zzC, Act.put, zzD, zzE, zzF]
    refine wpAnyH_done (by kernel_rfl) ?_ _
    go_wp2_with (go_at_call 70; refine (HTn.out _ _ H6.out).mono ?_; rintro e V7 ⟨⟨v7, rfl⟩, h7⟩; have H7 := Lib.hid h7; have hv := own_zeroM (r := w.heap.size + 1) h7 (by simp); clear h7; have f0 := (hv 0 (by omega)).1; have g0 := (hv 0 (by omega)).2; have f1 := (hv 1 (by omega)).1; have g1 := (hv 1 (by omega)).2; have f2 := (hv 2 (by omega)).1; have g2 := (hv 2 (by omega)).2; have f3 := (hv 3 (by omega)).1; have g3 := (hv 3 (by omega)).2)
    have t4 := Rw.four_set _ (w.heap.size + 1) [] (.int .i64 0) (.int .i64 0) (.int .i64 0) (.int .i64 0) hv
    refine bodyPost_ret (v := .tuple #[rowW zr, .bool false, .int .i64 0]) (by simp [results, Tryz.results42, go_sem, t4.1, t4.2.1, t4.2.2.1, t4.2.2.2, rowW, zr]) rfl ?_
    refine ⟨by simp, ?_⟩
    have h1 := own_scratch (H7.out.perm (List.perm_middle (l₁ := tabS tb most o b _))) (four_fr (w.heap.size + 1) (.int .i64 0) (.int .i64 0) (.int .i64 0) (.int .i64 0) V7)
    have h2 := (h1.perm (List.perm_middle (l₁ := tabS tb most o b _))).drop
    refine own_untab ⟨HOk.out.ok.ins HK.out HIn.out, ?_, HOk.out.lo, HOk.out.hi⟩ h2
    have h5 := ins_len (k, encT (r0, r1, r2, r3)) L
    have h6 := HN.out
    split at h5 <;> omega
  | some s =>
   have HLk := Lib.hid (own_lookSome hS0 HOk.out.ok HK.out hg)
   have HG := Lib.hid hg
   have hpe : putE k most L = 0 := by unfold putE; rw [HK.out, hg]; rfl
   rw [hpe]
   obtain ⟨⟨s0, s1, s2, s3⟩, hd⟩ : ∃ d, decT s = d := ⟨_, rfl⟩
   rw [hd] at HLk
   have HDs := Lib.hid hd
   simp only [if_true, hg, Option.isSome_some, Bool.and_true, hd]
   have HTn : Hid (∀ (V : World) (p : Nat), Own B w0 (tabS tb most o b (upd (tabLs L) 0 (rowsTo k (some (r0, r1, r2, r3)) L)) ++ (CellsR p (r4V (s0, s1, s2, s3)) :: CellsR (w.heap.size + 1) (r4V zr) :: CellsR w.heap.size (r4V (r0, r1, r2, r3)) :: X)) V → Calls Tryz.prog 70 #[ptrV tb, .string ⟨k.toArray⟩, .pointer (some ⟨p, 0, none⟩), .pointer (some ⟨w.heap.size, 0, none⟩)] V fun e V2 => (∃ v, e = .returned v) ∧ Own B w0 (tabS tb most o b (tabLs (rowsTo k (some (r0, r1, r2, r3)) L)) ++ (CellsR p (r4V (s0, s1, s2, s3)) :: CellsR (w.heap.size + 1) (r4V zr) :: CellsR w.heap.size (r4V (r0, r1, r2, r3)) :: X)) V2) := Lib.hid (fun V p h =>
    own_turned h HOk.out HSo.out HK.out (fun r e => by cases e; exact HIn.out) (some (p, 0)) (some (w.heap.size, 0)) (by rw [HG.out, Option.map_some, HDs.out]; exact own_ptrM h (by simp)) (own_ptrM h (by simp)))
   clear hpe hg hS0 hd
   go_enter Tryz.func42, Tryz.ntmps42
   go_wp2_with (first
    | (go_at_call 61; refine (HC.out _).mono ?_; rintro e V ⟨rfl, rfl⟩)
    | (go_at_call 62; refine HLk.out.mono ?_; rintro e V ⟨p, rfl, h3⟩; have H3 := Lib.hid (h3.perm (List.perm_middle (l₁ := tabS tb most o b _)).symm); clear h3))
   go_quiet (fail)
   go_wp2
   have HO7 := Lib.hid (H3.out.later (below_drewN V nq))
   obtain ⟨x0, x1, x2, x3⟩ := own_rowM (p := w.heap.size) (r := (r0, r1, r2, r3)) HO7.out (by simp)
   refine wp_region_held_drew (S := (fun V => V.cell? ⟨w.heap.size, 0, none⟩ = some (.int .i64 r0) ∧ V.cell? ⟨w.heap.size, 1, none⟩ = some (.int .i64 r1) ∧ V.cell? ⟨w.heap.size, 2, none⟩ = some (.int .i64 r2) ∧ V.cell? ⟨w.heap.size, 3, none⟩ = some (.int .i64 r3))) (by kernel_rfl) ⟨x0, x1, x2, x3⟩ (fun hH0c => ?_)
   refine zzT (i := 0) (v := ?vc0) rfl (by kernel_rfl) (fun _ _ _ h => h) ?hc0 hH0c ?rc0
   case hc0 => (intro W h; (try dsimp only at h); go_simp; all_goals (with_reducible rfl))
   try simp only [zzA, zzB, zzC, Act.put, zzD, zzE, zzF]
   refine zzT (i := 2) (v := ?vc2) rfl (by kernel_rfl) (fun _ _ _ h => h) ?hc2 hH0c ?rc2
   case hc2 => (intro W h; (try dsimp only at h); go_simp; all_goals (with_reducible rfl))
   try simp only [zzA, zzB, zzC, Act.put, zzD, zzE, zzF]
   refine zzT (i := 3) (v := ?vc3) rfl (by kernel_rfl) (fun _ _ _ h => h) ?hc3 hH0c ?rc3
   case hc3 => (intro W h; (try dsimp only at h); go_simp; all_goals (with_reducible rfl))
   try simp only [zzA, zzB, zzC, Act.put, zzD, zzE, zzF]
   refine wpAnyH_ready (rs := [1]) (by kernel_rfl) (by simp) ?_
   refine AllReadyH.cons rfl (fun K hK => ?_) AllReadyH.nil
   simp only [zzA, zzB, zzC]
   go_simp
   (go_at_call 53; refine (HRows.out _ _ (HO7.out.later (Below.refl _ _).drew)).mono ?_; rintro e V4 ⟨rfl, rfl⟩)
   refine hK.out _ _ (hH0c) (fun hH1c => ?_)
   clear hK K hH0c
   try simp only [zzA, zzB, zzC, Act.put, zzD, zzE, zzF]
   refine wpAnyH_ready (rs := [4]) (by kernel_rfl) (by simp) ?_
   refine AllReadyH.cons rfl (fun K hK => ?_) AllReadyH.nil
   simp only [zzA, zzB, zzC]
   go_simp
   (go_at_call 69; refine (HEn.out _).mono ?_; rintro e V5 ⟨ea, ec, rfl, hrd, hb5⟩)
   have H5 := Lib.hid (HO7.out.later ((Below.refl _ _).drew.trans hb5))
   have hcv := conv_str hrd
   refine hK.out _ _ (⟨old_cell hH1c.1 hb5, old_cell hH1c.2.1 hb5, old_cell hH1c.2.2.1 hb5, old_cell hH1c.2.2.2 hb5⟩) (fun hH2c => ?_)
   clear hK K hH1c
   try simp only [zzA, zzB, zzC, Act.put, zzD, zzE, zzF]
   refine wpAnyH_ready (rs := [5]) (by kernel_rfl) (by simp) ?_
   refine AllReadyH.cons rfl (fun K hK => ?_) AllReadyH.nil
   simp only [zzA, zzB, zzC]
   go_simp
   refine hK.out _ _ (hH2c) (fun hH3c => ?_)
   clear hK K hH2c
   try simp only [zzA, zzB, zzC, Act.put, zzD, zzE, zzF]
   refine wpAnyH_ready (rs := [6]) (by kernel_rfl) (by simp) ?_
   refine AllReadyH.cons rfl (fun K hK => ?_) AllReadyH.nil
   simp only [zzA, zzB, zzC]
   go_simp
   (go_at_call 68; refine (HPt.out _ _ H5.out).mono ?_; rintro e V6 ⟨⟨v6, rfl⟩, h6⟩; have H6 := Lib.hid h6; clear h6)
   have y := own_rowM (p := w.heap.size) (r := (r0, r1, r2, r3)) H6.out (by simp)
   refine hK.out _ _ (y) (fun hH4c => ?_)
   clear hK K hH3c
   try simp only [zzA, zzB, zzC, Act.put, zzD, zzE, zzF]
   refine wpAnyH_done (by kernel_rfl) ?_ _
   go_wp2_with (go_at_call 70; refine (HTn.out _ _ H6.out).mono ?_; rintro e V7 ⟨⟨v7, rfl⟩, h7⟩; have H7 := Lib.hid h7; obtain ⟨z0, z1, z2, z3⟩ := own_rowM (p := p) (r := (s0, s1, s2, s3)) h7 (by simp); have hv := own_zeroM (r := w.heap.size + 1) h7 (by simp); clear h7; have f0 := (hv 0 (by omega)).1; have g0 := (hv 0 (by omega)).2; have f1 := (hv 1 (by omega)).1; have g1 := (hv 1 (by omega)).2; have f2 := (hv 2 (by omega)).1; have g2 := (hv 2 (by omega)).2; have f3 := (hv 3 (by omega)).1; have g3 := (hv 3 (by omega)).2)
   have t4 := Rw.four_set _ (w.heap.size + 1) [] (.int .i64 s0) (.int .i64 s1) (.int .i64 s2) (.int .i64 s3) hv
   refine bodyPost_ret (v := .tuple #[rowW (s0, s1, s2, s3), .bool true, .int .i64 0]) (by simp [results, Tryz.results42, go_sem, t4.1, t4.2.1, t4.2.2.1, t4.2.2.2, rowW]) rfl ?_
   refine ⟨by simp, ?_⟩
   have h0 := (H7.out.perm (List.perm_middle (l₁ := tabS tb most o b _))).drop
   have h1 := own_scratch (h0.perm (List.perm_middle (l₁ := tabS tb most o b _))) (four_fr (w.heap.size + 1) (.int .i64 s0) (.int .i64 s1) (.int .i64 s2) (.int .i64 s3) V7)
   have h2 := (h1.perm (List.perm_middle (l₁ := tabS tb most o b _))).drop
   refine own_untab ⟨HOk.out.ok.ins HK.out HIn.out, ?_, HOk.out.lo, HOk.out.hi⟩ h2
   have h5 := ins_len (k, encT (r0, r1, r2, r3)) L
   have h6 := HOk.out.len
   rw [if_neg (by rw [HG.out]; simp)] at h5
   omega
end
end Tb
end Go.Proofs.YtecnijnmgdfdhaaGreat
