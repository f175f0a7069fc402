/- Joined: Cur1. -/
import Derived.Test.YtecnijnmgdfdhaaGreatYTreeE
import Derived.Test.YtecnijnmgdfdhaaGreatYTr
namespace Go.Proofs.YtecnijnmgdfdhaaGreat
open Go.RowKit Tr
open Ky (less)

theorem str_gtr (t : TypeId) (a b : List UInt8) : binOp .gtr t (.string ⟨a.toArray⟩) (.string ⟨b.toArray⟩) = pure (.bool (Op.bytesLess b a)) := by
 have h : (!(Op.bytesLess a b || a == b)) = Op.bytesLess b a := by
  rcases Ky.less_trich a b with h | h | h
  ·subst h; simp [Ky.less_self]
  ·simp [h, Ky.less_asymm h]
  ·have hne : (a == b) = false := by
    rw [beq_eq_false_iff_ne]; rintro rfl; rw [Ky.less_self] at h; cases h
   simp [h, Ky.less_asymm h, hne]
 simp only [binOp, Op.stringOp, list_of, h]
theorem cat_run (t : TypeId) (a b : List UInt8) (h : a.length + b.length ≤ 9223372036854775807) : binOp .add t (.string ⟨a.toArray⟩) (.string ⟨b.toArray⟩) = pure (.string ⟨(a ++ b).toArray⟩) := by
 have hsz : ∀ l : List UInt8, (⟨l.toArray⟩ : ByteArray).size = l.length := fun l => by simp [ByteArray.size]
 have happ : (⟨a.toArray⟩ : ByteArray) ++ ⟨b.toArray⟩ = ⟨(a ++ b).toArray⟩ := by
  apply ByteArray.ext
  simp
 have hm : IntKind.i64.max = 9223372036854775807 := by decide
 simp only [binOp, Op.stringOp, hsz, hm, happ]
 rw [if_neg (by omega)]
structure CurAt (w : World) (c b : Nat) (s t at_ : Str) : Prop where
 c0 : w.cell? ⟨c, 0, none⟩ = some (ptrV b)
 c1 : w.cell? ⟨c, 1, none⟩ = some (.string ⟨s.toArray⟩)
 c2 : w.cell? ⟨c, 2, none⟩ = some (.string ⟨t.toArray⟩)
 c3 : w.cell? ⟨c, 3, none⟩ = some (.string ⟨at_.toArray⟩)
 f3 : w.frozen? ⟨c, 3, none⟩ = false
theorem CurAt.fr {S : Foot} {w w' : World} {c b : Nat} {s t at_ : Str} (k : CurAt w c b s t at_) (hf : Fr S w w') (hd : ∀ x, ¬ S c x) : CurAt w' c b s t at_ := by
 have hb := block_of_cell k.c0
 exact ⟨(hf.cell _ _ hb (hd _)).trans k.c0, (hf.cell _ _ hb (hd _)).trans k.c1, (hf.cell _ _ hb (hd _)).trans k.c2, (hf.cell _ _ hb (hd _)).trans k.c3, (hf.froz _ _ hb (hd _)).trans k.f3⟩
theorem CurAt.later {w w' : World} {c b : Nat} {s t at_ : Str} (k : CurAt w c b s t at_) (hb : Below w.heap.size w w') : CurAt w' c b s t at_ := k.fr (Fr.ofBelow hb noCells) (fun _ h => h)
theorem CurAt.go {w : World} {c b : Nat} {s t at_ : Str} (k : CurAt w c b s t at_) (to : Str) : CurAt (w.setCell ⟨c, 3, none⟩ (.string ⟨to.toArray⟩)) c b s t to := by
 refine ⟨?_, ?_, ?_, World.cell?_setCell_same' _ _ _ (by rw [k.c3]; rfl), by rw [World.frozen?_setCell]; exact k.f3⟩
 ·rw [World.cell?_setCell_other _ _ _ _ (by simp)]; exact k.c0
 ·rw [World.cell?_setCell_other _ _ _ _ (by simp)]; exact k.c1
 ·rw [World.cell?_setCell_other _ _ _ _ (by simp)]; exact k.c2
set_option maxHeartbeats 400000 in
theorem newC_ok (b : Nat) (s t : Str) (hl : t = [] ∨ less t s = false) (w : World) : Calls Tryz.prog 56 #[ptrV b, .string ⟨s.toArray⟩, .string ⟨t.toArray⟩] w fun e V => e = .returned (.tuple #[ptrV w.heap.size, .int .i64 0]) ∧ CurAt V w.heap.size b s t s ∧ Below w.heap.size w V := by
 have h1 := str_neq 9 t []
 have h2 := str_lss 9 t s
 by_cases ht : t = []
 ·rw [show (t == []) = true by simp [ht]] at h1
  clear h2 hl ht
  go_enter Tryz.func56, Tryz.ntmps56
  go_wp2
  go_ret2
  exact ⟨rfl, ⟨by simp, by simp, by simp, by simp, by simp⟩, al1 _ _⟩
 ·rw [show (t == []) = false by simp [ht]] at h1
  rw [show Op.bytesLess t s = false from hl.resolve_left ht] at h2
  clear hl ht
  go_enter Tryz.func56, Tryz.ntmps56
  go_wp2
  go_ret2
  exact ⟨rfl, ⟨by simp, by simp, by simp, by simp, by simp⟩, al1 _ _⟩
set_option maxHeartbeats 2000000 in
set_option maxRecDepth 100000 in
theorem nextC_stop (c b o h : Nat) (g : G) (s t at_ : Str) (w : World) (hT : TreeAt w b o h g) (hk : CurAt w c b s t at_) (hs : stopAt t (ceil at_ (flat h g)) = true) :
  Calls Tryz.prog 59 #[ptrV c] w fun e V => e = .returned (.tuple #[.string ⟨#[]⟩, .string ⟨#[]⟩, .bool false]) ∧ Below w.heap.size w V := by
 obtain ⟨R, hR⟩ : ∃ R, ceil at_ (flat h g) = R := ⟨_, rfl⟩
 have HL : Hid (∀ W, Below w.heap.size w W → Calls Tryz.prog 89 #[ptrV b, .string ⟨at_.toArray⟩] W fun e V => e = .returned (.tuple #[.string ⟨(ckey R).toArray⟩, .string ⟨(cval R).toArray⟩, .int .i64 (ccode R)]) ∧ (V.cell? ⟨c, 0, none⟩ = some (ptrV b) ∧ V.cell? ⟨c, 3, none⟩ = some (.string ⟨at_.toArray⟩)) ∧ V.cell? ⟨c, 2, none⟩ = some (.string ⟨t.toArray⟩) ∧ Hid (Below w.heap.size w V)) := Lib.hid (fun W hb => by
  rw [← hR]
  refine (ceil_walk b o h g at_ W (hT.later hb)).mono ?_
  rintro e V ⟨rfl, hv⟩
  have hb2 := hb.trans (hv.mono hb.size)
  have hk2 := hk.later hb2
  exact ⟨rfl, ⟨hk2.c0, hk2.c3⟩, hk2.c2, Lib.hid hb2⟩)
 have x0 := hk.c0
 have x3 := hk.c3
 have hq1 := str_neq 9 t []
 rw [hR] at hs
 cases R with
 | none =>
  clear hT hk hR hs hq1
  simp only [ckey, cval, ccode] at HL
  go_enter Tryz.func59, Tryz.ntmps59
  go_wp2
  go_region_held3 (fun V => V.cell? ⟨c, 0, none⟩ = some (ptrV b) ∧ V.cell? ⟨c, 3, none⟩ = some (.string ⟨at_.toArray⟩))
   (first | exact ⟨x0, x3⟩ | exact y0)
   ((go_at_call 89; refine (HL.out _ (below_drewN _ 1)).mono ?_; rintro e V ⟨rfl, y0, y2, HB⟩))
  rename_i hHeld
  clear hHeld
  go_wp2
  go_ret3
  exact ⟨rfl, HB.out⟩
 | some q =>
  have hs2 : t ≠ [] ∧ less q.1 t = false := by simpa [stopAt] using hs
  have hq2 := str_geq 9 q.1 t
  rw [show (t == []) = false by simp [hs2.1]] at hq1
  rw [show Op.bytesLess q.1 t = false from hs2.2] at hq2
  clear hT hk hR hs hs2
  simp only [ckey, cval, ccode] at HL
  go_enter Tryz.func59, Tryz.ntmps59
  go_wp2
  go_region_held3 (fun V => V.cell? ⟨c, 0, none⟩ = some (ptrV b) ∧ V.cell? ⟨c, 3, none⟩ = some (.string ⟨at_.toArray⟩))
   (first | exact ⟨x0, x3⟩ | exact y0)
   ((go_at_call 89; refine (HL.out _ (below_drewN _ 1)).mono ?_; rintro e V ⟨rfl, y0, y2, HB⟩))
  rename_i hHeld
  clear hHeld
  go_wp2
  go_ret3
  exact ⟨rfl, HB.out⟩
set_option maxHeartbeats 2000000 in
set_option maxRecDepth 100000 in
theorem nextC_go (c b o h : Nat) (g : G) (s t at_ : Str) (q : Pr) (w : World) (hT : TreeAt w b o h g) (hk : CurAt w c b s t at_) (hR : ceil at_ (flat h g) = some q) (hs : stopAt t (some q) = false) (hl : q.1.length ≤ 1000) :
  Calls Tryz.prog 59 #[ptrV c] w fun e V => e = .returned (.tuple #[.string ⟨q.1.toArray⟩, .string ⟨q.2.toArray⟩, .bool true]) ∧ CurAt V c b s t (q.1 ++ [0]) ∧ Fr (fun k _ => k = c) w V := by
 have HL : Hid (∀ W, Below w.heap.size w W → Calls Tryz.prog 89 #[ptrV b, .string ⟨at_.toArray⟩] W fun e V => e = .returned (.tuple #[.string ⟨q.1.toArray⟩, .string ⟨q.2.toArray⟩, .int .i64 0]) ∧ (V.cell? ⟨c, 0, none⟩ = some (ptrV b) ∧ V.cell? ⟨c, 3, none⟩ = some (.string ⟨at_.toArray⟩)) ∧ (V.cell? ⟨c, 2, none⟩ = some (.string ⟨t.toArray⟩) ∧ V.frozen? ⟨c, 3, none⟩ = false) ∧ Hid (Below w.heap.size w V)) := Lib.hid (fun W hb => by
  have := ceil_walk b o h g at_ W (hT.later hb)
  rw [hR] at this
  refine this.mono ?_
  rintro e V ⟨rfl, hv⟩
  have hb2 := hb.trans (hv.mono hb.size)
  have hk2 := hk.later hb2
  exact ⟨rfl, ⟨hk2.c0, hk2.c3⟩, ⟨hk2.c2, hk2.f3⟩, Lib.hid hb2⟩)
 have x0 := hk.c0
 have x3 := hk.c3
 have HK := Lib.hid hk
 have hq1 := str_neq 9 t []
 have hq2 := str_geq 9 q.1 t
 have hq3 : binOp .add 9 (.string ⟨q.1.toArray⟩) (.string ⟨#[0]⟩) = pure (.string ⟨(q.1 ++ [0]).toArray⟩) := cat_run 9 q.1 [0] (by simp; omega)
 have hs2 : t = [] ∨ less q.1 t = true := by
  by_cases ht : t = []
  ·exact .inl ht
  ·right; simpa [stopAt, ht] using hs
 have hcase : (t == []) = true ∨ ((t == []) = false ∧ Op.bytesLess q.1 t = true) := by
  by_cases ht : t = []
  ·exact .inl (by simp [ht])
  ·exact .inr ⟨by simp [ht], hs2.resolve_left ht⟩
 clear hT hk hR hs hs2 hl
 rcases hcase with e | ⟨e, e2⟩
 ·rw [e] at hq1
  clear hq2 e
  go_enter Tryz.func59, Tryz.ntmps59
  go_wp2
  go_region_held3 (fun V => V.cell? ⟨c, 0, none⟩ = some (ptrV b) ∧ V.cell? ⟨c, 3, none⟩ = some (.string ⟨at_.toArray⟩))
   (first | exact ⟨x0, x3⟩ | exact y0)
   ((go_at_call 89; refine (HL.out _ (below_drewN _ 1)).mono ?_; rintro e V ⟨rfl, y0, ⟨y2, y3⟩, HB⟩))
  rename_i hHeld
  clear hHeld
  obtain ⟨y0, y1⟩ := y0
  go_wp2
  go_ret3
  exact ⟨rfl, (HK.out.later HB.out).go _, (Fr.ofBelow HB.out _).trans (fr_own V c 3 _) (fun _ _ h => .inl h)⟩
 ·rw [e] at hq1
  rw [e2] at hq2
  clear e e2
  go_enter Tryz.func59, Tryz.ntmps59
  go_wp2
  go_region_held3 (fun V => V.cell? ⟨c, 0, none⟩ = some (ptrV b) ∧ V.cell? ⟨c, 3, none⟩ = some (.string ⟨at_.toArray⟩))
   (first | exact ⟨x0, x3⟩ | exact y0)
   ((go_at_call 89; refine (HL.out _ (below_drewN _ 1)).mono ?_; rintro e V ⟨rfl, y0, ⟨y2, y3⟩, HB⟩))
  rename_i hHeld
  clear hHeld
  obtain ⟨y0, y1⟩ := y0
  go_wp2
  go_ret3
  exact ⟨rfl, (HK.out.later HB.out).go _, (Fr.ofBelow HB.out _).trans (fr_own V c 3 _) (fun _ _ h => .inl h)⟩
end Go.Proofs.YtecnijnmgdfdhaaGreat
