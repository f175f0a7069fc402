/- Joined: Tab5, Tab6. -/
import Derived.Test.YtecnijnmgdfdhaaGreatYTabA
import Derived.Test.YtecnijnmgdfdhaaGreatYRwB
import Derived.OwnWalk
import Derived.BigQuiet
namespace Go.Proofs.YtecnijnmgdfdhaaGreat
namespace Tb
open Go.RowKit Tr
open Ky (less)
def tabLs (L : List Pr) : Nat → List Pr := fun i => match i with | 0 => L | c + 1 => idx c L
structure TOk (most : Nat) (L : List Pr) : Prop where
 ok : OkT L
 len : L.length ≤ most
 lo : 1 ≤ most
 hi : most ≤ 1024
def TabR (tb most o : Nat) (L : List Pr) : Rs where
 R w F := TOk most L ∧ ∃ b, SepF (tabS tb most o b (tabLs L)) w F
 fr := fun ⟨h1, b, h2⟩ hf ha => ⟨h1, b, h2.fr hf ha⟩
 lies := fun ⟨_, b, h2⟩ => h2.lies
def r4V (r : R4) : List Value := [.int .i64 r.1, .int .i64 r.2.1, .int .i64 r.2.2.1, .int .i64 r.2.2.2]
def rowW (r : R4) : Value := Rw.rowV r.1 r.2.1 r.2.2.1 r.2.2.2
def zr : R4 := (0, 0, 0, 0)
def getR (k : Str) (L : List Pr) : R4 := if Ks.okKey k then (match get k L with | some s => decT s | none => zr) else zr
def getE (k : Str) (L : List Pr) : Int := if Ks.okKey k then (if (get k L).isSome then 0 else 14) else 13
def delT (k : Str) (L : List Pr) : List Pr := if Ks.okKey k then del k L else L
def putE (k : Str) (most : Nat) (L : List Pr) : Int := if Ks.okKey k then (if (get k L).isNone && decide (most ≤ L.length) then 16 else 0) else 13
def putB (k : Str) (L : List Pr) : Bool := Ks.okKey k && (get k L).isSome
def putT (k : Str) (r : R4) (most : Nat) (L : List Pr) : List Pr := if putE k most L = 0 then ins (k, encT r) L else L
section
variable {B : Nat} {w0 w V : World} {X : List Rs} {tb most o : Nat} {L : List Pr} {k : Str}
theorem own_tab (h : Own B w0 (TabR tb most o L :: X) w) : TOk most L ∧ ∃ b, Own B w0 (tabS tb most o b (tabLs L) ++ X) w := by
 obtain ⟨hB, hb0, F, ⟨F1, F2, e, ha, ⟨h1, b, hs⟩, h3⟩, h2⟩ := h
 exact ⟨h1, b, hB, hb0, F, SepF.join e ha hs h3, h2⟩
theorem own_untab {b : Nat → Nat} (hk : TOk most L) (h : Own B w0 (tabS tb most o b (tabLs L) ++ X) w) : Own B w0 (TabR tb most o L :: X) w := by
 obtain ⟨hB, hb0, F, hs, h2⟩ := h
 obtain ⟨F1, F2, e, ha, h1, h3⟩ := SepF.append hs
 exact ⟨hB, hb0, F, ⟨F1, F2, e, ha, ⟨hk, b, h1⟩, h3⟩, h2⟩
theorem own_tabSorted (h : Own B w0 (TabR tb most o L :: X) w) : Sorted L := by
 obtain ⟨_, b, h2⟩ := own_tab h
 exact own_tsorted 0 (by omega) h2
theorem own_tabOk (h : Own B w0 (TabR tb most o L :: X) w) : TOk most L := (own_tab h).1
theorem own_scratch {r : Nat} {vs : List Value} (h : Own B w0 (CellsR r vs :: X) w) (hf : Fr (fun b _ => b = r) w V) : Own B w0 X V := by
 obtain ⟨F1, ⟨h1, h2, h3⟩, _, hk⟩ := h.open1
 exact hk V [] ⟨noCells, fun _ _ h => h, hf.mono (fun b o e => (h1 b o).2 e), fun _ _ h => h.elim⟩
theorem one_fr {r : Nat} {w V : World} (h : Fr (fun k _ => k = r) w V) (i : Nat) (a : Value) : Fr (fun k _ => k = r) w (V.setCell ⟨r, i, none⟩ a) := h.setCell (.inl rfl) a
theorem four_fr (r : Nat) (a b c d : Value) (w : World) : Fr (fun k _ => k = r) w ((((w.setCell ⟨r, 0, none⟩ a).setCell ⟨r, 1, none⟩ b).setCell ⟨r, 2, none⟩ c).setCell ⟨r, 3, none⟩ d) :=
 one_fr (one_fr (one_fr (one_fr (Fr.refl _ w) 0 a) 1 b) 2 c) 3 d
theorem own_zero {r : Nat} (h : Own B w0 (CellsR r (r4V zr) :: X) w) : Rw.RowVar w r [] := by
 obtain ⟨F, ⟨_, _, h3⟩, _⟩ := h.get
 intro i hi
 have : i = 0 ∨ i = 1 ∨ i = 2 ∨ i = 3 := by omega
 rcases this with rfl | rfl | rfl | rfl
 ·exact h3 0 _ rfl
 ·exact h3 1 _ rfl
 ·exact h3 2 _ rfl
 ·exact h3 3 _ rfl
theorem own_row {p : Nat} {r : R4} (h : Own B w0 (CellsR p (r4V r) :: X) w) : w.cell? ⟨p, 0, none⟩ = some (.int .i64 r.1) ∧ w.cell? ⟨p, 1, none⟩ = some (.int .i64 r.2.1) ∧ w.cell? ⟨p, 2, none⟩ = some (.int .i64 r.2.2.1) ∧ w.cell? ⟨p, 3, none⟩ = some (.int .i64 r.2.2.2) :=
 ⟨own_cell h (i := 0) rfl, own_cell h (i := 1) rfl, own_cell h (i := 2) rfl, own_cell h (i := 3) rfl⟩
theorem own_ptr {p : Nat} {r : R4} (h : Own B w0 (CellsR p (r4V r) :: X) w) : Rw.PtrAt w (some (p, 0)) (some (col r)) := by
 obtain ⟨x0, x1, x2, x3⟩ := own_row h
 intro i hi
 rw [Nat.zero_add]
 have : i = 0 ∨ i = 1 ∨ i = 2 ∨ i = 3 := by omega
 rcases this with rfl | rfl | rfl | rfl
 ·exact x0
 ·exact x1
 ·exact x2
 ·exact x3
theorem own_newRow (h : Own B w0 X w) (r : R4) (t : TypeId) : Own B w0 (CellsR w.heap.size (r4V r) :: X) (w.alloc (.cells #[.int .i64 r.1, .int .i64 r.2.1, .int .i64 r.2.2.1, .int .i64 r.2.2.2] t)) :=
 own_cells h #[.int .i64 r.1, .int .i64 r.2.1, .int .i64 r.2.2.1, .int .i64 r.2.2.2] t
theorem own_lookSome {b : Nat → Nat} (h : Own B w0 (tabS tb most o b (tabLs L) ++ X) w) (hok : OkT L) (hk : Ks.okKey k = true) {s : Str} (hg : get k L = some s) :
  Calls Tryz.prog 62 #[ptrV tb, .string ⟨k.toArray⟩] w fun e V => ∃ p, e = .returned (ptrV p) ∧ Own B w0 (CellsR p (r4V (decT s)) :: (tabS tb most o b (tabLs L) ++ X)) V := by
 refine (look_some h rfl hok k hk hg).mono ?_
 rintro e V ⟨p, rfl, h1, h2, h3, h4, h5⟩
 refine ⟨p, rfl, h.add h2 (F := fun k _ => k = p) ⟨fun k o => Iff.rfl, h4, fun i v hv => ?_⟩ (fun k x e => by rw [e]; exact h3)⟩
 match i, hv with
 | 0, hv => cases hv; exact ⟨h1 0 (by omega), h5 0 (by omega)⟩
 | 1, hv => cases hv; exact ⟨h1 1 (by omega), h5 1 (by omega)⟩
 | 2, hv => cases hv; exact ⟨h1 2 (by omega), h5 2 (by omega)⟩
 | 3, hv => cases hv; exact ⟨h1 3 (by omega), h5 3 (by omega)⟩
set_option maxHeartbeats 1000000 in
theorem own_tabLen (h : Own B w0 (TabR tb most o L :: X) w) : Calls Tryz.prog 26 #[ptrV tb] w fun e V => e = .returned (.int .i64 (L.length : Nat)) ∧ w = V := by
 obtain ⟨_, b, hS⟩ := own_tab h
 have HR := Lib.hid (rows_any hS)
 have HL := Lib.hid (own_tlen 0 (by omega) hS)
 clear h hS
 go_enter Tryz.func26, Tryz.ntmps26
 go_wp2_with (first
  | (go_at_call 53; refine HR.out.mono ?_; rintro e V ⟨rfl, rfl⟩)
  | (go_at_call 54; refine HL.out.mono ?_; rintro e V ⟨rfl, rfl⟩))
 go_ret
 exact ⟨rfl, rfl⟩
theorem own_tabMost (h : Own B w0 (TabR tb most o L :: X) w) : Calls Tryz.prog 35 #[ptrV tb] w fun e V => e = .returned (.int .i64 most) ∧ w = V := by
 obtain ⟨_, b, hS⟩ := own_tab h
 have x0 := own_tcell hS (i := 0) rfl
 clear h hS
 go_enter Tryz.func35, Tryz.ntmps35
 go_wp2
 go_ret
 exact ⟨rfl, rfl⟩
set_option maxHeartbeats 4000000 in
set_option maxRecDepth 100000 in
theorem own_tabGet (k : Str) (h : Own B w0 (TabR tb most o L :: X) w) :
  Calls Tryz.prog 29 #[ptrV tb, .string ⟨k.toArray⟩] w fun e V => e = .returned (.tuple #[rowW (getR k L), .int .i64 (getE k L)]) ∧ Below w.heap.size w V := by
 obtain ⟨hk, b, hS⟩ := own_tab h
 have hZ := own_newRow (Own.nil w) zr 41
 have hb1 := al1 w (.cells #[.int .i64 zr.1, .int .i64 zr.2.1, .int .i64 zr.2.2.1, .int .i64 zr.2.2.2] 41)
 obtain ⟨W1, hW1⟩ : ∃ W1, w.alloc (.cells #[.int .i64 0, .int .i64 0, .int .i64 0, .int .i64 0] 41) = W1 := ⟨_, rfl⟩
 have hZ : Own w.heap.size w [CellsR w.heap.size (r4V zr)] W1 := by rw [← hW1]; exact hZ
 have hb1 : Below w.heap.size w W1 := by rw [← hW1]; exact hb1
 have HS := Lib.hid (hS.later hb1)
 have HZ := Lib.hid (fun V (hb : Below W1.heap.size W1 V) => own_zero (hZ.later hb))
 have HB1 := Lib.hid (fun V (hb : Below W1.heap.size W1 V) => hb1.trans (hb.mono hb1.size))
 have HC := Lib.hid (fun W => checkTb_any tb k W)
 clear h hS hZ hb1
 unfold getR getE
 cases hkey : Ks.okKey k with
 | false =>
  rw [show Ks.chk k = 13 by unfold Ks.chk; rw [hkey]; rfl] at HC
  have hv := HZ.out _ (Below.refl _ _)
  have f0 := (hv 0 (by omega)).1
  have g0 := (hv 0 (by omega)).2
  have f1 := (hv 1 (by omega)).1
  have g1 := (hv 1 (by omega)).2
  have f2 := (hv 2 (by omega)).1
  have g2 := (hv 2 (by omega)).2
  have f3 := (hv 3 (by omega)).1
  have g3 := (hv 3 (by omega)).2
  go_enter Tryz.func29, Tryz.ntmps29
  go_wp2_with (go_at_call 61; refine (HC.out _).mono ?_; rintro e V ⟨rfl, rfl⟩)
  have t4 := Rw.four_set W1 w.heap.size [] (.int .i64 0) (.int .i64 0) (.int .i64 0) (.int .i64 0) hv
  refine bodyPost_ret (v := .tuple #[rowW zr, .int .i64 13]) (by simp [results, Tryz.results29, go_sem, t4.1, t4.2.1, t4.2.2.1, t4.2.2.2, rowW, zr]) rfl ?_
  exact ⟨rfl, (HB1.out _ (Below.refl _ _)).trans (((four_fr w.heap.size _ _ _ _ W1).below (Nat.le_trans (HB1.out _ (Below.refl _ _)).size (Nat.le_refl _)) (fun b o e => by rw [e]; exact Nat.le_refl _)))⟩
 | true =>
  rw [show Ks.chk k = 0 by unfold Ks.chk; rw [hkey]; rfl] at HC
  cases hg : get k L with
  | none =>
   have HLk := Lib.hid (look_none HS.out rfl k hkey hg)
   clear hg
   go_enter Tryz.func29, Tryz.ntmps29
   go_wp2_with (first
    | (go_at_call 61; refine (HC.out _).mono ?_; rintro e V ⟨rfl, rfl⟩)
    | (go_at_call 62; refine HLk.out.mono ?_; rintro e V ⟨rfl, hb⟩; have HB2 := Lib.hid hb; have hv := HZ.out _ hb; clear hb; have f0 := (hv 0 (by omega)).1; have g0 := (hv 0 (by omega)).2; have f1 := (hv 1 (by omega)).1; have g1 := (hv 1 (by omega)).2; have f2 := (hv 2 (by omega)).1; have g2 := (hv 2 (by omega)).2; have f3 := (hv 3 (by omega)).1; have g3 := (hv 3 (by omega)).2))
   have t4 := Rw.four_set V w.heap.size [] (.int .i64 0) (.int .i64 0) (.int .i64 0) (.int .i64 0) hv
   refine bodyPost_ret (v := .tuple #[rowW zr, .int .i64 14]) (by simp [results, Tryz.results29, go_sem, t4.1, t4.2.1, t4.2.2.1, t4.2.2.2, rowW, zr]) rfl ?_
   have hb := HB1.out _ HB2.out
   exact ⟨rfl, hb.trans ((four_fr w.heap.size _ _ _ _ V).below hb.size (fun b o e => by rw [e]; exact Nat.le_refl _))⟩
  | some s =>
   have HLk := Lib.hid (look_some HS.out rfl hk.ok k hkey hg)
   obtain ⟨r, hr⟩ : ∃ r, decT s = r := ⟨_, rfl⟩
   rw [hr] at HLk
   simp only [if_true, hr, Option.isSome_some]
   obtain ⟨r0, r1, r2, r3⟩ := r
   clear hg hr
   go_enter Tryz.func29, Tryz.ntmps29
   go_wp2_with (first
    | (go_at_call 61; refine (HC.out _).mono ?_; rintro e V ⟨rfl, rfl⟩)
    | (go_at_call 62; refine HLk.out.mono ?_; rintro e V ⟨p, rfl, hra, hb, _⟩; have HB2 := Lib.hid hb; have hv := HZ.out _ hb; have z0 : V.cell? ⟨p, 0, none⟩ = some (.int .i64 r0) := hra 0 (by omega); have z1 : V.cell? ⟨p, 1, none⟩ = some (.int .i64 r1) := hra 1 (by omega); have z2 : V.cell? ⟨p, 2, none⟩ = some (.int .i64 r2) := hra 2 (by omega); have z3 : V.cell? ⟨p, 3, none⟩ = some (.int .i64 r3) := hra 3 (by omega); clear hb hra; have f0 := (hv 0 (by omega)).1; have g0 := (hv 0 (by omega)).2; have f1 := (hv 1 (by omega)).1; have g1 := (hv 1 (by omega)).2; have f2 := (hv 2 (by omega)).1; have g2 := (hv 2 (by omega)).2; have f3 := (hv 3 (by omega)).1; have g3 := (hv 3 (by omega)).2))
   have t4 := Rw.four_set V w.heap.size [] (.int .i64 r0) (.int .i64 r1) (.int .i64 r2) (.int .i64 r3) hv
   refine bodyPost_ret (v := .tuple #[rowW (r0, r1, r2, r3), .int .i64 0]) (by simp [results, Tryz.results29, go_sem, t4.1, t4.2.1, t4.2.2.1, t4.2.2.2, rowW]) rfl ?_
   have hb := HB1.out _ HB2.out
   exact ⟨rfl, hb.trans ((four_fr w.heap.size _ _ _ _ V).below hb.size (fun b o e => by rw [e]; exact Nat.le_refl _))⟩
end
end Tb
end Go.Proofs.YtecnijnmgdfdhaaGreat

namespace Go.Proofs.YtecnijnmgdfdhaaGreat
namespace Tb
open Go.RowKit Tr
open Ky (less)
section
variable {B : Nat} {w0 w V : World} {X : List Rs} {tb most o : Nat} {L : List Pr} {k : Str}
theorem tab_len {tb most o : Nat} (h : TOk most L) (hs : Sorted L) (i : Nat) : (tabLs L i).length ≤ 1024 := by
 have h1 := h.len
 have h2 := h.hi
 cases i with
 | zero => show L.length ≤ 1024; omega
 | succ c => show (idx c L).length ≤ 1024; rw [idx_len h.ok hs]; omega
theorem tab_turned {b : Nat → Nat} (hok : OkT L) (hs : Sorted L) (hk : Ks.okKey k = true) (now : Option R4) (hn : ∀ r, now = some r → In4 r) :
  tabS tb most o b (fun i => if 1 ≤ i ∧ i ≤ 4 then turnC (i - 1) k ((get k L).map decT) now (upd (tabLs L) 0 (rowsTo k now L) i) else upd (tabLs L) 0 (rowsTo k now L) i) = tabS tb most o b (tabLs (rowsTo k now L)) := by
 refine tabS_congr (fun i hi => ?_)
 cases i with
 | zero => rfl
 | succ c =>
  rw [if_pos (by omega)]
  exact idx_turn hok hs hk now hn c
theorem putL_rows (hk : Ks.okKey k = true) {r : R4} (hr : In4 r) (L : List Pr) : putL k (encT r) L = rowsTo k (some r) L := by
 unfold putL
 have := encT_len hr
 rw [okTk_key hk]
 simp [rowsTo]
 omega
theorem delL_rows (hk : Ks.okKey k = true) (L : List Pr) : delL k L = rowsTo k none L := by
 unfold delL; rw [okTk_key hk]; rfl
theorem get_e0 (h : getE k L = 0) : Ks.okKey k = true ∧ ∃ s, get k L = some s := by
 unfold getE at h
 cases hk : Ks.okKey k with
 | false => rw [hk] at h; simp at h
 | true =>
  rw [hk] at h
  cases hg : get k L with
  | none => rw [hg] at h; simp at h
  | some s => exact ⟨rfl, s, rfl⟩
theorem get_e1 (h : getE k L ≠ 0) : delT k L = L ∧ getR k L = zr := by
 unfold getE at h
 unfold delT getR
 cases hk : Ks.okKey k with
 | false => exact ⟨rfl, rfl⟩
 | true =>
  rw [hk] at h
  cases hg : get k L with
  | none => exact ⟨del_none hg, rfl⟩
  | some s => rw [hg] at h; simp at h
set_option maxHeartbeats 8000000 in
set_option maxRecDepth 100000 in
theorem own_tabDel (k : Str) (h : Own B w0 (TabR tb most o L :: X) w) :
  Calls Tryz.prog 43 #[ptrV tb, .string ⟨k.toArray⟩] w fun e V => e = .returned (.tuple #[rowW (getR k L), .int .i64 (getE k L)]) ∧ Own B w0 (TabR tb most o (delT k L) :: X) V := by
 have hZ := own_newRow h zr 41
 obtain ⟨W1, hW1⟩ : ∃ W1, w.alloc (.cells #[.int .i64 0, .int .i64 0, .int .i64 0, .int .i64 0] 41) = W1 := ⟨_, rfl⟩
 have hZ : Own B w0 (CellsR w.heap.size (r4V zr) :: TabR tb most o L :: X) W1 := by rw [← hW1]; exact hZ
 have HZ := Lib.hid hZ
 have HG := Lib.hid (own_tabGet k hZ.drop)
 clear h hZ
 by_cases he : getE k L = 0
 ·obtain ⟨hkey, s, hg⟩ := get_e0 he
  have hR : getR k L = decT s := by unfold getR; rw [hkey, hg]; rfl
  have hD : delT k L = rowsTo k none L := by unfold delT; rw [hkey]; rfl
  rw [hR, he] at HG ⊢
  rw [hD]
  have HK := Lib.hid (And.intro hkey hg)
  obtain ⟨⟨r0, r1, r2, r3⟩, hr⟩ : ∃ r, decT s = r := ⟨_, rfl⟩
  rw [hr] at HG ⊢
  simp only [rowW] at HG
  have HRr := Lib.hid hr
  clear he hR hD hkey hg hr
  -- the table, parted
  have HS : Hid (∀ V, Below W1.heap.size W1 V → ∃ b, Hid (Own B w0 (tabS tb most o b (tabLs L) ++ (CellsR V.heap.size (r4V (r0, r1, r2, r3)) :: CellsR w.heap.size (r4V zr) :: X)) (V.alloc (.cells #[.int .i64 r0, .int .i64 r1, .int .i64 r2, .int .i64 r3] 41)) ∧ TOk most L)) := Lib.hid (fun V hb => by
   have h1 := own_newRow (HZ.out.later hb) (r0, r1, r2, r3) 41
   have h2 := h1.perm (List.perm_middle (l₁ := [_, _]))
   obtain ⟨ok, b, h3⟩ := own_tab h2
   exact ⟨b, Lib.hid ⟨h3, ok⟩⟩)
  have HRows := Lib.hid (fun (V : World) (b : Nat → Nat) (Y : List Rs) (h : Own B w0 (tabS tb most o b (tabLs L) ++ Y) V) => rows_any h)
  have HDl : Hid (∀ (V : World) (b : Nat → Nat) (Y : List Rs), Own B w0 (tabS tb most o b (tabLs L) ++ Y) V → TOk most L → Calls Tryz.prog 71 #[ptrV (b 0), .string ⟨k.toArray⟩] V fun e V2 => (∃ v, e = .returned v) ∧ Own B w0 (tabS tb most o b (upd (tabLs L) 0 (rowsTo k none L)) ++ Y) V2) := Lib.hid (fun V b Y h ok => by
   refine (own_tdel 0 (by omega) k h (by show L.length ≤ _; have := ok.len; have := ok.hi; omega)).mono ?_
   rintro e V2 ⟨rfl, h2⟩
   rw [show delL k (tabLs L 0) = rowsTo k none L from delL_rows HK.out.1 L] at h2
   exact ⟨⟨_, rfl⟩, h2⟩)
  have HTn : Hid (∀ (V : World) (b : Nat → Nat) (m : Nat) (Y : List Rs), Own B w0 (tabS tb most o b (upd (tabLs L) 0 (rowsTo k none L)) ++ (CellsR m (r4V (r0, r1, r2, r3)) :: Y)) V → TOk most L → Sorted L → Calls Tryz.prog 70 #[ptrV tb, .string ⟨k.toArray⟩, .pointer (some ⟨m, 0, none⟩), .pointer none] V fun e V2 => (∃ v, e = .returned v) ∧ Own B w0 (tabS tb most o b (tabLs (rowsTo k none L)) ++ (CellsR m (r4V (r0, r1, r2, r3)) :: Y)) V2) := Lib.hid (fun V b m Y h ok hs => by
   have hin : In4 (r0, r1, r2, r3) := by rw [← HRr.out]; exact (ok.ok.got HK.out.2 hs).1
   have hp := own_ptr (h.perm (List.perm_middle (l₁ := tabS tb most o b _)))
   refine (turn_any h (fun i => ?_) k HK.out.1 (some (m, 0)) none (some (r0, r1, r2, r3)) none (fun r e => by cases e; exact hin) (fun r e => by cases e) hp trivial).mono ?_
   ·unfold upd
    split
    ·have h1 := rowsTo_sorted hs k none
     show (del k L).length ≤ 50000
     have h2 := del_len k L
     have h3 := ok.len
     have h4 := ok.hi
     split at h2 <;> omega
    ·have := tab_len (tb := tb) (o := o) ok hs i
     omega
   ·rintro e V2 ⟨hv, h2⟩
    rw [show (some (r0, r1, r2, r3) : Option R4) = (get k L).map decT by rw [HK.out.2, Option.map_some, HRr.out], tab_turned ok.ok hs HK.out.1 none (fun r e => by cases e)] at h2
    exact ⟨hv, h2⟩)
  have HSo : Hid (∀ (V : World) (b : Nat → Nat) (Y : List Rs), Own B w0 (tabS tb most o b (tabLs L) ++ Y) V → Sorted L) := Lib.hid (fun V b Y h => own_tsorted 0 (by omega) h)
  go_enter Tryz.func43, Tryz.ntmps43
  go_wp2_with (first
   | (go_at_call 29; refine HG.out.mono ?_; rintro e V ⟨rfl, hb⟩; obtain ⟨b, HS1⟩ := HS.out V hb; have HS2 := Lib.hid (HSo.out _ _ _ HS1.out.1); clear hb)
   | (go_at_call 53; refine (HRows.out _ _ _ HS1.out.1).mono ?_; rintro e V2 ⟨rfl, rfl⟩)
   | (go_at_call 71; refine (HDl.out _ _ _ HS1.out.1 HS1.out.2).mono ?_; rintro e V2 ⟨⟨v2, rfl⟩, h2⟩; have H2 := Lib.hid h2; clear h2)
   | (go_at_call 70; refine (HTn.out _ _ _ _ H2.out HS1.out.2 HS2.out).mono ?_; rintro e V3 ⟨⟨v3, rfl⟩, h3⟩; have H3 := Lib.hid h3; obtain ⟨z0, z1, z2, z3⟩ := own_row (h3.perm (List.perm_middle (l₁ := tabS tb most o b _))); have hv := own_zero ((h3.perm (List.perm_middle (l₁ := tabS tb most o b _))).drop.perm (List.perm_middle (l₁ := tabS tb most o b _))); clear h3; have f0 := (hv 0 (by omega)).1; have g0 := (hv 0 (by omega)).2; have f1 := (hv 1 (by omega)).1; have g1 := (hv 1 (by omega)).2; have f2 := (hv 2 (by omega)).1; have g2 := (hv 2 (by omega)).2; have f3 := (hv 3 (by omega)).1; have g3 := (hv 3 (by omega)).2))
  have t4 := Rw.four_set V3 w.heap.size [] (.int .i64 r0) (.int .i64 r1) (.int .i64 r2) (.int .i64 r3) hv
  refine bodyPost_ret (v := .tuple #[rowW (r0, r1, r2, r3), .int .i64 0]) (by simp [results, Tryz.results43, go_sem, t4.1, t4.2.1, t4.2.2.1, t4.2.2.2, rowW]) rfl ?_
  refine ⟨rfl, ?_⟩
  have h1 := (H3.out.perm (List.perm_middle (l₁ := tabS tb most o b _))).drop.perm (List.perm_middle (l₁ := tabS tb most o b _))
  have h2 := own_scratch h1 (four_fr w.heap.size (.int .i64 r0) (.int .i64 r1) (.int .i64 r2) (.int .i64 r3) V3)
  have ok := HS1.out.2
  refine own_untab ⟨ok.ok.del k, ?_, ok.lo, ok.hi⟩ h2
  have h5 := del_len k L
  have h6 := ok.len
  show (del k L).length ≤ most
  split at h5 <;> omega
 ·obtain ⟨h1, h2⟩ := get_e1 he
  rw [h1]
  rw [h2] at HG ⊢
  have hne : ¬ getE k L = 0 := he
  obtain ⟨ec, hec⟩ : ∃ ec, getE k L = ec := ⟨_, rfl⟩
  rw [hec] at HG hne ⊢
  clear h1 h2 he hec
  have HV : Hid (∀ V, Below W1.heap.size W1 V → Own B w0 (CellsR w.heap.size (r4V zr) :: TabR tb most o L :: X) (V.alloc (.cells #[.int .i64 0, .int .i64 0, .int .i64 0, .int .i64 0] 41))) := Lib.hid (fun V hb => (HZ.out.later hb).later (al1 V _))
  go_enter Tryz.func43, Tryz.ntmps43
  go_wp2_with (go_at_call 29; refine HG.out.mono ?_; unfold rowW zr; rintro e V ⟨rfl, hb⟩; have H2 := Lib.hid (HV.out V hb); have hv := own_zero (HV.out V hb); clear hb; have f0 := (hv 0 (by omega)).1; have g0 := (hv 0 (by omega)).2; have f1 := (hv 1 (by omega)).1; have g1 := (hv 1 (by omega)).2; have f2 := (hv 2 (by omega)).1; have g2 := (hv 2 (by omega)).2; have f3 := (hv 3 (by omega)).1; have g3 := (hv 3 (by omega)).2)
  have t4 := Rw.four_set _ w.heap.size [] (.int .i64 0) (.int .i64 0) (.int .i64 0) (.int .i64 0) hv
  refine bodyPost_ret (v := .tuple #[rowW zr, .int .i64 ec]) (by simp [results, Tryz.results43, go_sem, t4.1, t4.2.1, t4.2.2.1, t4.2.2.2, rowW, zr]) rfl ?_
  exact ⟨rfl, own_scratch H2.out (four_fr w.heap.size _ _ _ _ _)⟩
end
end Tb
end Go.Proofs.YtecnijnmgdfdhaaGreat
