/- Joined: Tree20, Tree21, Tree22, Tree23, Tree24, Tree25, Tree26. -/
import Derived.Test.YtecnijnmgdfdhaaGreatYTreeD
import Derived.BigQuiet
import Derived.OwnWalk
import Derived.Deep.LoopGhost
import Derived.Lib.Strings
namespace Go.Proofs.YtecnijnmgdfdhaaGreat
open Go.RowKit Tr
open Ky (less)

structure TreeM (w : World) (b o n h : Nat) (g : G) : Prop where
 c0 : w.cell? ⟨b, 0, none⟩ = some (.int .i64 o)
 c1 : w.cell? ⟨b, 1, none⟩ = some (.int .i64 n)
 c2 : w.cell? ⟨b, 2, none⟩ = some (ptrV g.b)
 f0 : w.frozen? ⟨b, 0, none⟩ = false
 f1 : w.frozen? ⟨b, 1, none⟩ = false
 f2 : w.frozen? ⟨b, 2, none⟩ = false
 bn : ∀ x, ¬ foot h g b x
 nd : Nd w h g
structure Good (o h : Nat) (g : G) : Prop where
 o2 : 2 ≤ o
 o16 : o ≤ 16
 kids : Tr.Kids o h g
 sorted : Sorted (flat h g)
 hi : g.ps.length + 1 ≤ 2 * o
 pos : 0 < h → 0 < g.ps.length
def treeF (b h : Nat) (g : G) : Foot := fun k x => k = b ∨ foot h g k x
structure TreeAt (w : World) (b o h : Nat) (g : G) : Prop where
 m : TreeM w b o (flat h g).length h g
 good : Good o h g
theorem TreeM.fr {S : Foot} {w w' : World} {b o n h : Nat} {g : G} (t : TreeM w b o n h g) (hf : Fr S w w') (hd : Apart (treeF b h g) S) : TreeM w' b o n h g := by
 have hb := block_of_cell t.c0
 have hn : ∀ x, ¬ S b x := fun x => hd b x (.inl rfl)
 exact ⟨(hf.cell _ _ hb (hn _)).trans t.c0, (hf.cell _ _ hb (hn _)).trans t.c1, (hf.cell _ _ hb (hn _)).trans t.c2, (hf.froz _ _ hb (hn _)).trans t.f0, (hf.froz _ _ hb (hn _)).trans t.f1, (hf.froz _ _ hb (hn _)).trans t.f2,
  t.bn, t.nd.fr hf (hd.mono (fun _ _ h => .inr h) (fun _ _ h => h))⟩
theorem TreeM.later {w w' : World} {b o n h : Nat} {g : G} (t : TreeM w b o n h g) (hb : Below w.heap.size w w') : TreeM w' b o n h g := t.fr (Fr.ofBelow hb noCells) (fun _ _ _ h => h)
theorem TreeAt.fr {S : Foot} {w w' : World} {b o h : Nat} {g : G} (t : TreeAt w b o h g) (hf : Fr S w w') (hd : Apart (treeF b h g) S) : TreeAt w' b o h g := ⟨t.m.fr hf hd, t.good⟩
theorem TreeAt.later {w w' : World} {b o h : Nat} {g : G} (t : TreeAt w b o h g) (hb : Below w.heap.size w w') : TreeAt w' b o h g := ⟨t.m.later hb, t.good⟩
theorem TreeM.lies {w : World} {b o n h : Nat} {g : G} (t : TreeM w b o n h g) : Lies w (treeF b h g) := by
 rintro k x (rfl | hx)
 ·exact block_of_cell t.c0
 ·exact t.nd.lies k x hx
theorem TreeM.turn {w V : World} {b o n h : Nat} {g g' : G} (t : TreeM w b o n h g) (hf : Fr (foot h g) w V) (hn : Nd V h g') (hgr : Grew w (foot h g) (foot h g')) (hb : g'.b = g.b) : TreeM V b o n h g' := by
 have hl : b < w.heap.size := block_of_cell t.c0
 refine ⟨(hf.cell _ _ hl (t.bn _)).trans t.c0, (hf.cell _ _ hl (t.bn _)).trans t.c1, (hf.cell _ _ hl (t.bn _)).trans (by rw [hb]; exact t.c2), (hf.froz _ _ hl (t.bn _)).trans t.f0, (hf.froz _ _ hl (t.bn _)).trans t.f1, (hf.froz _ _ hl (t.bn _)).trans t.f2, fun x hx => ?_, hn⟩
 rcases hgr b x hx with h1 | h1
 ·exact t.bn x h1
 ·omega
theorem fr_own (w : World) (b o : Nat) (v : Value) : Fr (fun k _ => k = b) w (w.setCell ⟨b, o, none⟩ v) := (Fr.refl (fun k _ => k = b) w).setCell (.inl (show b = b from rfl)) v
theorem TreeM.count {w : World} {b o n h : Nat} {g : G} (t : TreeM w b o n h g) (m : Nat) : TreeM (w.setCell ⟨b, 1, none⟩ (.int .i64 m)) b o m h g := by
 refine ⟨?_, ?_, ?_, ?_, ?_, ?_, t.bn, t.nd.fr (fr_own w b 1 _) (fun k x hx e => t.bn x (by cases e; exact hx))⟩
 ·rw [World.cell?_setCell_other _ _ _ _ (by simp)]; exact t.c0
 ·exact World.cell?_setCell_same' _ _ _ (by rw [t.c1]; rfl)
 ·rw [World.cell?_setCell_other _ _ _ _ (by simp)]; exact t.c2
 ·rw [World.frozen?_setCell]; exact t.f0
 ·rw [World.frozen?_setCell]; exact t.f1
 ·rw [World.frozen?_setCell]; exact t.f2
theorem TreeM.over {w : World} {b o n h : Nat} {g : G} (t : TreeM w b o n h g) (t1 t2 : TypeId) :
  TreeM (((w.alloc (.cells #[ptrV g.b] t1)).alloc (.cells #[.slice none 0 0, .slice (some ⟨w.heap.size, 0, none⟩) 1 1] t2)).setCell ⟨b, 2, none⟩ (ptrV (w.heap.size + 1))) b o n (h + 1) (.mk (w.heap.size + 1) noCells (fun k _ => k = w.heap.size) [] [g]) ∧
  Fr (fun k _ => k = b) w (((w.alloc (.cells #[ptrV g.b] t1)).alloc (.cells #[.slice none 0 0, .slice (some ⟨w.heap.size, 0, none⟩) 1 1] t2)).setCell ⟨b, 2, none⟩ (ptrV (w.heap.size + 1))) := by
 have hb : b < w.heap.size := block_of_cell t.c0
 have e1 : Below w.heap.size w (w.alloc (.cells #[ptrV g.b] t1)) := al1 w _
 have e2 : Below w.heap.size w ((w.alloc (.cells #[ptrV g.b] t1)).alloc (.cells #[.slice none 0 0, .slice (some ⟨w.heap.size, 0, none⟩) 1 1] t2)) := e1.trans ((al1 _ _).mono (by simp))
 obtain ⟨V, hV⟩ : ∃ V, ((w.alloc (.cells #[ptrV g.b] t1)).alloc (.cells #[.slice none 0 0, .slice (some ⟨w.heap.size, 0, none⟩) 1 1] t2)) = V := ⟨_, rfl⟩
 have a0 : V.cell? ⟨w.heap.size, 0, none⟩ = some (ptrV g.b) := by rw [← hV]; exact old_cell (w := w.alloc (.cells #[ptrV g.b] t1)) (by simp) (al1 _ _)
 have a1 : V.frozen? ⟨w.heap.size, 0, none⟩ = false := by rw [← hV]; exact ((al1 (w.alloc (.cells #[ptrV g.b] t1)) _).frozen (p := ⟨w.heap.size, 0, none⟩) (by simp)).trans (by simp)
 have b0 : V.cell? ⟨w.heap.size + 1, 0, none⟩ = some (.slice none 0 0) := by rw [← hV, show w.heap.size + 1 = (w.alloc (.cells #[ptrV g.b] t1)).heap.size by simp]; simp
 have b1 : V.cell? ⟨w.heap.size + 1, 1, none⟩ = some (.slice (some ⟨w.heap.size, 0, none⟩) 1 1) := by rw [← hV, show w.heap.size + 1 = (w.alloc (.cells #[ptrV g.b] t1)).heap.size by simp]; simp
 have b2 : V.frozen? ⟨w.heap.size + 1, 0, none⟩ = false := by rw [← hV]; simp
 have b3 : V.frozen? ⟨w.heap.size + 1, 1, none⟩ = false := by rw [← hV]; simp
 have hs : V.heap.size = w.heap.size + 2 := by rw [← hV]; simp
 rw [hV] at e2 ⊢
 have tV := t.later e2
 obtain ⟨p, hp⟩ : ∃ p, w.heap.size = p := ⟨_, rfl⟩
 have hlt : ∀ k x, foot h g k x → k < p := fun k x hx => by have := t.nd.lies k x hx; omega
 have hf := fr_own V b 2 (ptrV (w.heap.size + 1))
 refine ⟨?_, (Fr.ofBelow e2 _).trans hf (fun _ _ h => .inl h)⟩
 rw [hp] at a0 a1 b0 b1 b2 b3 hs hb hf ⊢
 have k0 := (hf.cell p 0 (by omega) (by omega)).trans a0
 have k1 := (hf.froz p 0 (by omega) (by omega)).trans a1
 have r0 := (hf.cell (p + 1) 0 (by omega) (by omega)).trans b0
 have r1 := (hf.cell (p + 1) 1 (by omega) (by omega)).trans b1
 have r2 := (hf.froz (p + 1) 0 (by omega) (by omega)).trans b2
 have r3 := (hf.froz (p + 1) 1 (by omega) (by omega)).trans b3
 refine ⟨?_, ?_, ?_, ?_, ?_, ?_, ?_, ⟨_, _, _, _, r0, r1, r2, r3, Sl.none_ _ 2, ⟨rfl, Nat.le_refl _, by decide, (fun h => by cases h), fun u hu => ?_, fun x hx _ => ?_⟩, fun k x h1 => h1.elim, fun x hx => hx, fun x hx => ?_, fun k x h1 => h1.elim, fun k x h1 => ?_⟩, fun k hk => ?_, List.pairwise_singleton _ _⟩
 ·rw [World.cell?_setCell_other _ _ _ _ (by simp)]; exact tV.c0
 ·rw [World.cell?_setCell_other _ _ _ _ (by simp)]; exact tV.c1
 ·exact World.cell?_setCell_same' _ _ _ (by rw [tV.c2]; rfl)
 ·rw [World.frozen?_setCell]; exact tV.f0
 ·rw [World.frozen?_setCell]; exact tV.f1
 ·rw [World.frozen?_setCell]; exact tV.f2
 ·rintro x ((h1 | h1 | h1) | ⟨k, hk, h1⟩)
  ·have h1 : b = p + 1 := h1
   omega
  ·exact h1
  ·have h1 : b = p := h1
   omega
  ·obtain rfl := List.mem_singleton.1 hk
   exact t.bn x h1
 ·have hu : u ∈ [ptrV g.b] := hu
  rw [List.mem_singleton] at hu
  subst hu; rfl
 ·cases hx
  refine ⟨p, 0, rfl, fun i hi => rfl, fun i u hu => ?_, fun i hi => ?_⟩
  ·have hi : i = 0 := by have := (List.getElem?_eq_some_iff.1 hu).1; simp [kidsV, G.ks] at this; exact this
   subst hi
   have hu : some (ptrV g.b) = some u := hu
   cases hu
   exact k0
  ·have hi : i = 0 := by omega
   subst hi
   exact ⟨by show (World.cell? _ ⟨p, 0, none⟩).isSome = true; rw [k0]; rfl, k1⟩
 ·have hx : p + 1 = p := hx
  omega
 ·have h1 : k = p := h1
  show k < _
  rw [World.size_setCell, hs]; omega
 ·obtain rfl := List.mem_singleton.1 hk
  refine ⟨tV.nd.fr hf (fun k x hx e => t.bn x (by cases e; exact hx)), ?_⟩
  rintro k' x (h1 | h1 | h1) h2
  ·have h1 : k' = p + 1 := h1
   have := hlt _ _ h2; omega
  ·exact h1
  ·have h1 : k' = p := h1
   have := hlt _ _ h2; omega
end Go.Proofs.YtecnijnmgdfdhaaGreat

namespace Go.Proofs.YtecnijnmgdfdhaaGreat
open Go.RowKit Tr
open Ky (less)

def okTk (k : Str) : Bool := decide (1 ≤ k.length ∧ k.length ≤ 64)
def chkT (k : Str) : Int := if okTk k then 0 else 13
set_option maxHeartbeats 400000 in
theorem checkT_any (b : Nat) (k : Str) (w : World) :
  Calls Tryz.prog 93 #[ptrV b, .string ⟨k.toArray⟩] w fun e w' => e = .returned (.int .i64 (chkT k)) ∧ w = w' := by
 by_cases h1 : k.length < 1
 ·have hc : chkT k = 13 := by unfold chkT okTk; simp; omega
  rw [hc]
  clear hc
  go_enter Tryz.func93, Tryz.ntmps93
  go_wp2
  go_ret
  exact ⟨rfl, rfl⟩
 by_cases h2 : 64 < k.length
 ·have hc : chkT k = 13 := by unfold chkT okTk; simp; omega
  rw [hc]
  clear hc
  go_enter Tryz.func93, Tryz.ntmps93
  go_wp2
  go_ret
  exact ⟨rfl, rfl⟩
 ·have hc : chkT k = 0 := by unfold chkT okTk; simp; omega
  rw [hc]
  clear hc
  go_enter Tryz.func93, Tryz.ntmps93
  go_wp2
  go_ret
  exact ⟨rfl, rfl⟩
set_option maxHeartbeats 400000 in
theorem lenT_any (b : Nat) (n : Nat) (w : World) (c1 : w.cell? ⟨b, 1, none⟩ = some (.int .i64 n)) :
  Calls Tryz.prog 54 #[ptrV b] w fun e w' => e = .returned (.int .i64 n) ∧ w = w' := by
 go_enter Tryz.func54, Tryz.ntmps54
 go_wp2
 go_ret
 exact ⟨rfl, rfl⟩
theorem TreeAt.made (w : World) (o : Nat) (h2 : 2 ≤ o) (h16 : o ≤ 16) (t1 t2 : TypeId) :
  TreeAt ((w.alloc (.cells #[.slice none 0 0, .slice none 0 0] t1)).alloc (.cells #[.int .i64 o, .int .i64 0, ptrV w.heap.size] t2)) (w.heap.size + 1) o 0 (.mk w.heap.size noCells noCells [] []) := by
 obtain ⟨V, hV⟩ : ∃ V, ((w.alloc (.cells #[.slice none 0 0, .slice none 0 0] t1)).alloc (.cells #[.int .i64 o, .int .i64 0, ptrV w.heap.size] t2)) = V := ⟨_, rfl⟩
 have a0 : V.cell? ⟨w.heap.size, 0, none⟩ = some (.slice none 0 0) := by rw [← hV]; exact old_cell (w := w.alloc (.cells #[.slice none 0 0, .slice none 0 0] t1)) (by simp) (al1 _ _)
 have a1 : V.cell? ⟨w.heap.size, 1, none⟩ = some (.slice none 0 0) := by rw [← hV]; exact old_cell (w := w.alloc (.cells #[.slice none 0 0, .slice none 0 0] t1)) (by simp) (al1 _ _)
 have a2 : V.frozen? ⟨w.heap.size, 0, none⟩ = false := by rw [← hV]; exact ((al1 (w.alloc (.cells #[.slice none 0 0, .slice none 0 0] t1)) _).frozen (p := ⟨w.heap.size, 0, none⟩) (by simp)).trans (by simp)
 have a3 : V.frozen? ⟨w.heap.size, 1, none⟩ = false := by rw [← hV]; exact ((al1 (w.alloc (.cells #[.slice none 0 0, .slice none 0 0] t1)) _).frozen (p := ⟨w.heap.size, 1, none⟩) (by simp)).trans (by simp)
 have b0 : V.cell? ⟨w.heap.size + 1, 0, none⟩ = some (.int .i64 o) := by rw [← hV, show w.heap.size + 1 = (w.alloc (.cells #[.slice none 0 0, .slice none 0 0] t1)).heap.size by simp]; simp
 have b1 : V.cell? ⟨w.heap.size + 1, 1, none⟩ = some (.int .i64 0) := by rw [← hV, show w.heap.size + 1 = (w.alloc (.cells #[.slice none 0 0, .slice none 0 0] t1)).heap.size by simp]; simp
 have b2 : V.cell? ⟨w.heap.size + 1, 2, none⟩ = some (ptrV w.heap.size) := by rw [← hV, show w.heap.size + 1 = (w.alloc (.cells #[.slice none 0 0, .slice none 0 0] t1)).heap.size by simp]; simp
 have f0 : V.frozen? ⟨w.heap.size + 1, 0, none⟩ = false := by rw [← hV]; simp
 have f1 : V.frozen? ⟨w.heap.size + 1, 1, none⟩ = false := by rw [← hV]; simp
 have f2 : V.frozen? ⟨w.heap.size + 1, 2, none⟩ = false := by rw [← hV]; simp
 rw [hV]
 refine ⟨⟨b0, b1, b2, f0, f1, f2, ?_, ⟨_, _, _, _, a0, a1, a2, a3, Sl.none_ _ 2, Sl.none_ _ 1, fun k x h1 => h1.elim, fun x hx => hx, fun x hx => hx, fun k x h1 => h1.elim, fun k x h1 => h1.elim⟩⟩, ⟨h2, h16, rfl, List.Pairwise.nil, by show 0 + 1 ≤ _; omega, fun h => absurd h (Nat.lt_irrefl 0)⟩⟩
 rintro x (h1 | h1 | h1)
 ·have h1 : w.heap.size + 1 = w.heap.size := h1
  omega
 ·exact h1
 ·exact h1
set_option maxHeartbeats 400000 in
theorem newT_any (o : Nat) (h2 : 2 ≤ o) (h16 : o ≤ 16) (w : World) :
  Calls Tryz.prog 73 #[.int .i64 o] w fun e w' => ∃ b g, e = .returned (.tuple #[ptrV b, .int .i64 0]) ∧ TreeAt w' b o 0 g ∧ g.ps = [] ∧ Below w.heap.size w w' ∧ ∀ k x, treeF b 0 g k x → w.heap.size ≤ k := by
 have g1 : (2 : Int) ≤ o := by omega
 have g2 : (o : Int) ≤ 16 := by omega
 have H := Lib.hid (And.intro h2 h16)
 clear h2 h16
 go_enter Tryz.func73, Tryz.ntmps73
 go_wp2
 go_ret2
 refine ⟨_, _, rfl, TreeAt.made w o H.out.1 H.out.2 _ _, rfl, (al1 _ _).trans ((al1 _ _).mono (by simp)), ?_⟩
 rintro k x (h1 | h1 | h1 | h1)
 ·have h1 : k = w.heap.size + 1 := h1
  omega
 ·have h1 : k = w.heap.size := h1
  omega
 ·exact h1.elim
 ·exact h1.elim
theorem root_over {o h : Nat} {k' l r g' : G} {X Y : List Pr} {m : Pr} {KX KY : List G} (hk : Tr.Kids o h k') (hX : X.length + 1 = o) (hY : Y.length + 1 ≤ 2 * o ∧ o ≤ Y.length + 1) (hkp : k'.ps = X ++ m :: Y) (hkk : k'.ks = KX ++ KY) (hax : Arity h X.length KX.length) (hay : Arity h Y.length KY.length)
  (hlp : l.ps = X) (hlk : l.ks = KX) (hrp : r.ps = Y) (hrk : r.ks = KY) (hp' : g'.ps = [] ++ m :: []) (hk' : g'.ks = [] ++ l :: r :: []) : Tr.Kids o (h + 1) g' ∧ flat (h + 1) g' = flat h k' := by
 obtain ⟨q1, q2⟩ := (kids_iff o h k').1 hk
 rw [hkk] at q2
 obtain ⟨q3, q4⟩ := KidsL.append.1 q2
 have hKl : Tr.Kids o h l := kids_mk (by rw [hlp, hlk]; exact hax) (by rw [hlk]; exact q3)
 have hKr : Tr.Kids o h r := kids_mk (by rw [hrp, hrk]; exact hay) (by rw [hrk]; exact q4)
 refine ⟨⟨by rw [hp', hk']; rfl, fun k hk => ?_⟩, ?_⟩
 ·rw [hk'] at hk
  simp only [List.nil_append, List.mem_cons, List.not_mem_nil, or_false] at hk
  rcases hk with rfl | rfl
  ·exact ⟨hKl, by rw [hlp]; omega, by rw [hlp]; omega⟩
  ·exact ⟨hKr, by rw [hrp]; omega, by rw [hrp]; omega⟩
 ·rw [flat_fl, hp', hk', two_one (C := []) (D := []) (A := []) (B := []) rfl rfl (cut_flat (k := k') (by rw [hkp, hlp, hrp]) (by rw [hkk, hlk, hrk]) (by rw [hlp, hlk]; exact hax))]
  have := fl_kid (h := h) (A := []) (C := []) (k := k') (B := []) (D := []) rfl rfl
  rw [this]
  simp [pre, suf]
def Overflow (o : Nat) (g2 : G) : Prop := ∃ m l r, g2.ps = [m] ∧ g2.ks = [l, r] ∧ l.ps.length + 1 = o ∧ r.ps.length = o
theorem tree_split (o h : Nat) (k' root : G) (ho2 : 2 ≤ o) (ho : o ≤ 16) (hk : Tr.Kids o h k') (hs : Sorted (flat h k')) (hl : k'.ps.length = 2 * o) (hrp : root.ps = []) (hrk : root.ks = [k']) (w : World) (b n : Nat) (ht : TreeM w b o n (h + 1) root) :
  Calls Tryz.prog 95 #[ptrV root.b, .int .i64 (0 : Nat), .int .i64 o] w fun e V => e = .returned (.tuple #[]) ∧ ∃ g2, Good o (h + 1) g2 ∧ flat (h + 1) g2 = flat h k' ∧ Overflow o g2 ∧ TreeM V b o n (h + 1) g2 ∧ Fr (foot (h + 1) root) w V ∧ Grew w (foot (h + 1) root) (foot (h + 1) g2) ∧ g2.b = root.b := by
 obtain ⟨X, m, Y, e1, e2, e3⟩ := cut3 k'.ps o (by omega) (by omega)
 obtain ⟨KX, KY, f1, f2, f3⟩ := kids_split hk e1 e2
 have := split_any h root k' [] [] [] [] X Y m o e2 (by omega) (by omega) (by omega) (by rw [hrp]; simp) (by rw [hrk]; simp) hrp hrk rfl e1 KX KY f1 f2 f3 w ht.nd
 refine this.mono ?_
 rintro e V ⟨rfl, l, r, g2, z1, z2, z3, z4, z5, z6, z7, z8, z9, z10⟩
 obtain ⟨r1, r2⟩ := root_over hk e2 ⟨by omega, by omega⟩ e1 f1 f2 f3 z4 z5 z6 z7 z2 z3
 exact ⟨rfl, g2, ⟨ho2, ho, r1, by rw [r2]; exact hs, by rw [z2]; show 1 + 1 ≤ _; omega, fun _ => by rw [z2]; exact Nat.one_pos⟩, r2, ⟨m, l, r, z2, z3, by rw [z4]; exact e2, by rw [z6]; omega⟩, ht.turn z9 z8 z10 z1, z9, z10, z1⟩
end Go.Proofs.YtecnijnmgdfdhaaGreat

namespace Go.Proofs.YtecnijnmgdfdhaaGreat
open Go.RowKit Tr
open Ky (less)

def PutTree (w : World) (b o h : Nat) (g : G) (key v : Str) (e : Ending) (V : World) : Prop :=
 e = .returned (.tuple #[.string ⟨(oldS key (flat h g)).toArray⟩, .bool (get key (flat h g)).isSome, .int .i64 0]) ∧ ∃ h' g', TreeAt V b o h' g' ∧ flat h' g' = ins (key, v) (flat h g) ∧ Fr (treeF b h g) w V ∧ Grew w (treeF b h g) (treeF b h' g') ∧
  ((h' = h ∧ g'.ps.length ≤ g.ps.length + 1 ∧ g'.ps.length + 1 ≤ 2 * o) ∨ (h' = h + 1 ∧ Overflow o g' ∧ g.ps.length + 1 = 2 * o))
set_option maxHeartbeats 4000000 in
set_option maxRecDepth 100000 in
theorem tree_put (b o h : Nat) (g : G) (key v : Str) (hk : okTk key = true) (hv : v.length ≤ 256) (hc : (flat h g).length ≤ 1000000000) (w : World) (hT : TreeAt w b o h g) :
  Calls Tryz.prog 68 #[ptrV b, .string ⟨key.toArray⟩, .string ⟨v.toArray⟩] w (PutTree w b o h g key v) := by
 obtain ⟨n, hn⟩ : ∃ n, (flat h g).length = n := ⟨_, rfl⟩
 have hTM := hT.m
 rw [hn] at hTM hc
 have HG := Lib.hid hT.good
 have HC := Lib.hid (fun W => checkT_any b key W)
 rw [show chkT key = 0 by unfold chkT; rw [hk]; rfl] at HC
 have x0 := hTM.c0
 have x2 := hTM.c2
 obtain ⟨old, hold⟩ : ∃ x, oldS key (flat h g) = x := ⟨_, rfl⟩
 obtain ⟨was, hwas⟩ : ∃ x, (get key (flat h g)).isSome = x := ⟨_, rfl⟩
 have HI : Hid (Sorted (ins (key, v) (flat h g))) := Lib.hid (HG.out.sorted.ins _)
 obtain ⟨n2, hn2⟩ : ∃ n2, (ins (key, v) (flat h g)).length = n2 := ⟨_, rfl⟩
 have hlen : n2 = if was then n else n + 1 := by
  rw [← hn2, ins_len, hn, ← hwas]
  cases get key (flat h g) <;> rfl
 have HR := Lib.hid (And.intro hold (And.intro hwas hn2))
 have HPUT : Hid (∀ (W : World), Below w.heap.size w W → Calls Tryz.prog 94 #[ptrV g.b, .agg #[.string ⟨key.toArray⟩, .string ⟨v.toArray⟩], .int .i64 o] W fun e V => e = .returned (.tuple #[.string ⟨old.toArray⟩, .bool was]) ∧ ∃ g', Hid (PutP o h g key v g') ∧ (V.cell? ⟨b, 0, none⟩ = some (.int .i64 o) ∧ V.cell? ⟨b, 2, none⟩ = some (ptrV g.b)) ∧ V.cell? ⟨b, 1, none⟩ = some (.int .i64 n) ∧ (∃ qa qc, V.cell? ⟨g.b, 0, none⟩ = some (.slice qa g'.ps.length qc)) ∧ Hid (TreeM V b o n h g' ∧ Fr (treeF b h g) w V ∧ Grew w (treeF b h g) (treeF b h g'))) := Lib.hid (fun W hb => by
  have hW := hTM.later hb
  refine (put_any o HG.out.o2 (by have := HG.out.o16; omega) key v h g W HG.out.kids HG.out.sorted HG.out.hi hW.nd).mono ?_
  rintro e V ⟨rfl, g', hP, hN, hf, hgr⟩
  have hm := hW.turn hf hN hgr hP.b
  obtain ⟨qa, qc, _, _, ht⟩ := hN.top
  refine ⟨by rw [← hold, ← hwas], g', Lib.hid hP, ⟨hm.c0, by rw [← hP.b]; exact hm.c2⟩, hm.c1, ⟨qa, qc, by rw [← hP.b]; exact ht.c0⟩, Lib.hid ⟨hm, (Fr.ofBelow hb _).trans hf (fun _ _ h => .inl (.inr h)), ?_⟩⟩
  rintro k x (rfl | hx)
  ·exact .inl (.inl rfl)
  ·rcases hgr k x hx with h1 | h1
   ·exact .inl (.inr h1)
   ·exact .inr (Nat.le_trans hb.size h1))
 have HT := Lib.hid hTM
 have ho2 : (2 : Int) ≤ o := by have := HG.out.o2; omega
 have ho3 : (o : Int) ≤ 16 := by have := HG.out.o16; omega
 have hn3 : (n : Int) ≤ 1000000000 := by omega
 have hv3 : (v.length : Int) ≤ 256 := by omega
 have HLEN := Lib.hid hlen
 clear hT hTM hn hold hwas hn2 hk hlen hc
 go_enter Tryz.func68, Tryz.ntmps68
 go_wp2_with (go_at_call 93; refine (HC.out _).mono ?_; rintro e V ⟨rfl, rfl⟩)
 go_region_held3 (fun V => V.cell? ⟨b, 0, none⟩ = some (.int .i64 o) ∧ V.cell? ⟨b, 2, none⟩ = some (ptrV g.b))
  (first | exact ⟨x0, x2⟩ | exact y0)
  ((go_at_call 94; refine (HPUT.out _ (below_drewN _ 1)).mono ?_; rintro e V ⟨rfl, g', HP, y0, y1, ⟨qa, qc, y4⟩, HM0⟩))
 rename_i hHeld
 clear hHeld
 obtain ⟨s, hs⟩ : ∃ s, g'.ps.length = s := ⟨_, rfl⟩
 rw [hs] at y4
 have HS := Lib.hid hs
 have hsn : s ≤ 2 * o := by
  have := HP.out.hi
  have := HG.out.hi
  omega
 clear hs
 obtain ⟨y0, y2⟩ := y0
 cases was with
 | true =>
  have HM := HM0
  rw [show n = n2 by rw [HLEN.out]; rfl] at HM
  go_wp2
  by_cases hsz : s + 1 ≤ 2 * o
  ·have hq : (s : Int) ≤ 2 * (o : Int) - 1 := by omega
   go_quiet (fail)
   go_wp2
   go_ret3
   have hM := HM.out.1.later (below_drewN _ nq)
   refine ⟨by rw [HR.out.1, HR.out.2.1]; rfl, h, g', ⟨by rw [HP.out.flat, HR.out.2.2]; exact hM, ⟨HG.out.o2, HG.out.o16, HP.out.kids, by rw [HP.out.flat]; exact HI.out, by rw [HS.out]; exact hsz, fun h0 => Nat.lt_of_lt_of_le (HG.out.pos h0) HP.out.lo⟩⟩, HP.out.flat, HM.out.2.1.trans (Fr.ofBelow (below_drewN _ nq) (treeF b h g)) (fun _ _ h => .inl h), HM.out.2.2, .inl ⟨rfl, HP.out.hi, by rw [HS.out]; exact hsz⟩⟩
  ·have hq : 2 * (o : Int) - 1 < (s : Int) := by omega
   go_quiet (fail)
   have eV : V.heap.size = V.heap.size := by simp
   have eW : (V.drewN nq).heap.size = V.heap.size := by simp
   have hbb : b < V.heap.size := block_of_cell y0
   have hL := HM.out.1.later (below_drewN _ nq)
   have hLf := HM.out.2.1.trans (Fr.ofBelow (below_drewN _ nq) (treeF b h g)) (fun _ _ h => .inl h)
   have hO := hL.over 152 172
   rw [HP.out.b, World.setCell_alloc_past _ b 2 _ (by rw [World.size_alloc]; omega), eW] at hO
   have hB : Below V.heap.size V (((V.drewN nq).alloc (.cells #[ptrV g.b] 152)).alloc (.cells #[.slice none 0 0, .slice (some ⟨V.heap.size, 0, none⟩) 1 1] 172)) := ((below_drewN _ nq).trans ((al1 _ _).mono (by simp))).trans ((al1 _ _).mono (by simp))
   have s1 := hB.frozen (p := ⟨b, 2, none⟩) (by rw [eV]; exact hbb)
   rw [HM.out.1.f2] at s1
   have s2 := old_cell (HM.out.1.c2) hB
   rw [HP.out.b] at s2
   clear hB
   obtain ⟨W, hW⟩ : ∃ W, ((((V.drewN nq).alloc (.cells #[ptrV g.b] 152)).setCell ⟨b, 2, none⟩ (ptrV (V.heap.size + 1))).alloc (.cells #[.slice none 0 0, .slice (some ⟨V.heap.size, 0, none⟩) 1 1] 172)) = W := ⟨_, rfl⟩
   rw [hW] at hO
   obtain ⟨rt, hrt⟩ : ∃ rt, G.mk (V.heap.size + 1) noCells (fun k _ => k = V.heap.size) [] [g'] = rt := ⟨_, rfl⟩
   rw [hrt] at hO
   have hrb : rt.b = V.heap.size + 1 := by rw [← hrt]; rfl
   have hf1 : Fr (treeF b h g) w W := hLf.trans hO.2 (fun _ _ e => .inl (.inl e))
   have hws : w.heap.size ≤ V.heap.size := by rw [← eV]; exact HM.out.2.1.size
   have hroot : ∀ k x, foot (h + 1) rt k x → treeF b h g k x ∨ w.heap.size ≤ k := by
    rw [← hrt]
    rintro k x ((e | e | e) | ⟨q, hq, e⟩)
    ·have e : k = V.heap.size + 1 := e
     exact .inr (by omega)
    ·exact e.elim
    ·have e : k = V.heap.size := e
     exact .inr (by omega)
    ·obtain rfl := List.mem_singleton.1 hq
     exact HM.out.2.2 k x (.inr e)
   have HSP : Hid (∀ (U : World), Below W.heap.size W U → Calls Tryz.prog 95 #[ptrV rt.b, .int .i64 0, .int .i64 o] U fun e X => e = .returned (.tuple #[]) ∧ (X.cell? ⟨b, 0, none⟩ = some (.int .i64 o) ∧ X.cell? ⟨b, 2, none⟩ = some (ptrV rt.b)) ∧ Hid (PutTree w b o h g key v (.returned (.tuple #[.string ⟨old.toArray⟩, .bool true, .int .i64 0])) X)) := Lib.hid (fun U hb => by
    refine (tree_split o h g' rt HG.out.o2 HG.out.o16 HP.out.kids (by rw [HP.out.flat]; exact HI.out) (by rw [HS.out]; omega) (by rw [← hrt]; rfl) (by rw [← hrt]; rfl) U b n2 (hO.1.later hb)).mono ?_
    rintro e X ⟨rfl, g2, q1, q2, q3, q4, q5, q6, q7⟩
    refine ⟨rfl, ⟨q4.c0, by rw [← q7]; exact q4.c2⟩, Lib.hid ⟨by rw [HR.out.1, HR.out.2.1], h + 1, g2, ⟨by rw [q2, HP.out.flat, HR.out.2.2]; exact q4, q1⟩, by rw [q2, HP.out.flat], (hf1.trans (Fr.ofBelow hb (treeF b h g)) (fun _ _ h => .inl h)).trans q5 hroot, ?_, .inr ⟨rfl, q3, by have := HP.out.hi; have := HG.out.hi; have := HS.out; omega⟩⟩⟩
    rintro k x (e | e)
    ·exact .inl (.inl e)
    ·rcases q6 k x e with e | e
     ·exact hroot k x e
     ·exact .inr (by have := hb.size; have := hf1.size; omega))
   have z0 := hO.1.c0
   have z2 := hO.1.c2
   rw [hrb] at HSP z2
   clear hO hL hLf hf1 hroot hrt hrb eW eV
   go_wp2
   clear s1 s2 hW
   go_region_held3 (fun U => U.cell? ⟨b, 0, none⟩ = some (.int .i64 o) ∧ U.cell? ⟨b, 2, none⟩ = some (ptrV (V.heap.size + 1)))
    (first | exact ⟨z0, z2⟩ | exact zz)
    ((go_at_call 95; refine (HSP.out _ (below_drewN _ 1)).mono ?_; rintro e U ⟨rfl, zz, HF⟩))
   go_wp2
   go_ret3
   exact HF.out
 | false =>
  have s0 := HM0.out.1.f1
  have hn4 : (n2 : Int) = n + 1 := by rw [HLEN.out]; simp
  have HM : Hid (TreeM (V.setCell ⟨b, 1, none⟩ (.int .i64 ((n : Int) + 1))) b o n2 h g' ∧ Fr (treeF b h g) w (V.setCell ⟨b, 1, none⟩ (.int .i64 ((n : Int) + 1))) ∧ Grew w (treeF b h g) (treeF b h g')) := by
   rw [← hn4]
   exact Lib.hid ⟨HM0.out.1.count n2, HM0.out.2.1.trans (fr_own V b 1 _) (fun k _ e => .inl (.inl e)), HM0.out.2.2⟩
  clear hn4
  go_wp2
  clear y0 y1 y2 y4 s0 HM0
  generalize V.setCell ⟨b, 1, none⟩ (.int .i64 ((n : Int) + 1)) = VV at HM ⊢
  clear V
  obtain ⟨qa, qc, y4⟩ : ∃ qa qc, VV.cell? ⟨g.b, 0, none⟩ = some (.slice qa s qc) := by
   obtain ⟨qa, qc, _, _, ht⟩ := HM.out.1.nd.top
   have := ht.c0
   rw [HP.out.b, HS.out] at this
   exact ⟨qa, qc, this⟩
  have y0 := HM.out.1.c0
  have y2 := HM.out.1.c2
  rw [HP.out.b] at y2
  by_cases hsz : s + 1 ≤ 2 * o
  ·have hq : (s : Int) ≤ 2 * (o : Int) - 1 := by omega
   go_quiet (fail)
   go_wp2
   go_ret3
   have hM := HM.out.1.later (below_drewN _ nq)
   refine ⟨by rw [HR.out.1, HR.out.2.1]; rfl, h, g', ⟨by rw [HP.out.flat, HR.out.2.2]; exact hM, ⟨HG.out.o2, HG.out.o16, HP.out.kids, by rw [HP.out.flat]; exact HI.out, by rw [HS.out]; exact hsz, fun h0 => Nat.lt_of_lt_of_le (HG.out.pos h0) HP.out.lo⟩⟩, HP.out.flat, HM.out.2.1.trans (Fr.ofBelow (below_drewN _ nq) (treeF b h g)) (fun _ _ h => .inl h), HM.out.2.2, .inl ⟨rfl, HP.out.hi, by rw [HS.out]; exact hsz⟩⟩
  ·have hq : 2 * (o : Int) - 1 < (s : Int) := by omega
   go_quiet (fail)
   have eV : VV.heap.size = VV.heap.size := by simp
   have eW : (VV.drewN nq).heap.size = VV.heap.size := by simp
   have hbb : b < VV.heap.size := block_of_cell y0
   have hL := HM.out.1.later (below_drewN _ nq)
   have hLf := HM.out.2.1.trans (Fr.ofBelow (below_drewN _ nq) (treeF b h g)) (fun _ _ h => .inl h)
   have hO := hL.over 152 172
   rw [HP.out.b, World.setCell_alloc_past _ b 2 _ (by rw [World.size_alloc]; omega), eW] at hO
   have hB : Below VV.heap.size VV (((VV.drewN nq).alloc (.cells #[ptrV g.b] 152)).alloc (.cells #[.slice none 0 0, .slice (some ⟨VV.heap.size, 0, none⟩) 1 1] 172)) := ((below_drewN _ nq).trans ((al1 _ _).mono (by simp))).trans ((al1 _ _).mono (by simp))
   have s1 := hB.frozen (p := ⟨b, 2, none⟩) (by rw [eV]; exact hbb)
   rw [HM.out.1.f2] at s1
   have s2 := old_cell (HM.out.1.c2) hB
   rw [HP.out.b] at s2
   clear hB
   obtain ⟨W, hW⟩ : ∃ W, ((((VV.drewN nq).alloc (.cells #[ptrV g.b] 152)).setCell ⟨b, 2, none⟩ (ptrV (VV.heap.size + 1))).alloc (.cells #[.slice none 0 0, .slice (some ⟨VV.heap.size, 0, none⟩) 1 1] 172)) = W := ⟨_, rfl⟩
   rw [hW] at hO
   obtain ⟨rt, hrt⟩ : ∃ rt, G.mk (VV.heap.size + 1) noCells (fun k _ => k = VV.heap.size) [] [g'] = rt := ⟨_, rfl⟩
   rw [hrt] at hO
   have hrb : rt.b = VV.heap.size + 1 := by rw [← hrt]; rfl
   have hf1 : Fr (treeF b h g) w W := hLf.trans hO.2 (fun _ _ e => .inl (.inl e))
   have hws : w.heap.size ≤ VV.heap.size := by rw [← eV]; exact HM.out.2.1.size
   have hroot : ∀ k x, foot (h + 1) rt k x → treeF b h g k x ∨ w.heap.size ≤ k := by
    rw [← hrt]
    rintro k x ((e | e | e) | ⟨q, hq, e⟩)
    ·have e : k = VV.heap.size + 1 := e
     exact .inr (by omega)
    ·exact e.elim
    ·have e : k = VV.heap.size := e
     exact .inr (by omega)
    ·obtain rfl := List.mem_singleton.1 hq
     exact HM.out.2.2 k x (.inr e)
   have HSP : Hid (∀ (U : World), Below W.heap.size W U → Calls Tryz.prog 95 #[ptrV rt.b, .int .i64 0, .int .i64 o] U fun e X => e = .returned (.tuple #[]) ∧ (X.cell? ⟨b, 0, none⟩ = some (.int .i64 o) ∧ X.cell? ⟨b, 2, none⟩ = some (ptrV rt.b)) ∧ Hid (PutTree w b o h g key v (.returned (.tuple #[.string ⟨old.toArray⟩, .bool false, .int .i64 0])) X)) := Lib.hid (fun U hb => by
    refine (tree_split o h g' rt HG.out.o2 HG.out.o16 HP.out.kids (by rw [HP.out.flat]; exact HI.out) (by rw [HS.out]; omega) (by rw [← hrt]; rfl) (by rw [← hrt]; rfl) U b n2 (hO.1.later hb)).mono ?_
    rintro e X ⟨rfl, g2, q1, q2, q3, q4, q5, q6, q7⟩
    refine ⟨rfl, ⟨q4.c0, by rw [← q7]; exact q4.c2⟩, Lib.hid ⟨by rw [HR.out.1, HR.out.2.1], h + 1, g2, ⟨by rw [q2, HP.out.flat, HR.out.2.2]; exact q4, q1⟩, by rw [q2, HP.out.flat], (hf1.trans (Fr.ofBelow hb (treeF b h g)) (fun _ _ h => .inl h)).trans q5 hroot, ?_, .inr ⟨rfl, q3, by have := HP.out.hi; have := HG.out.hi; have := HS.out; omega⟩⟩⟩
    rintro k x (e | e)
    ·exact .inl (.inl e)
    ·rcases q6 k x e with e | e
     ·exact hroot k x e
     ·exact .inr (by have := hb.size; have := hf1.size; omega))
   have z0 := hO.1.c0
   have z2 := hO.1.c2
   rw [hrb] at HSP z2
   clear hO hL hLf hf1 hroot hrt hrb eW eV
   go_wp2
   clear s1 s2 hW
   go_region_held3 (fun U => U.cell? ⟨b, 0, none⟩ = some (.int .i64 o) ∧ U.cell? ⟨b, 2, none⟩ = some (ptrV (VV.heap.size + 1)))
    (first | exact ⟨z0, z2⟩ | exact zz)
    ((go_at_call 95; refine (HSP.out _ (below_drewN _ 1)).mono ?_; rintro e U ⟨rfl, zz, HF⟩))
   go_wp2
   go_ret3
   exact HF.out
end Go.Proofs.YtecnijnmgdfdhaaGreat

namespace Go.Proofs.YtecnijnmgdfdhaaGreat
open Go.RowKit Tr
open Ky (less)

def DelTree (w : World) (b o h : Nat) (g : G) (key : Str) (e : Ending) (V : World) : Prop :=
 e = .returned (.tuple #[.string ⟨(oldS key (flat h g)).toArray⟩, .int .i64 (if (get key (flat h g)).isSome then 0 else 14)]) ∧ ∃ h' g', TreeAt V b o h' g' ∧ flat h' g' = del key (flat h g) ∧ Fr (treeF b h g) w V ∧ Grew w (treeF b h g) (treeF b h' g') ∧
  ((h' = h ∧ g'.ps.length ≤ g.ps.length) ∨ h = h' + 1)
theorem root_under {w : World} {o h : Nat} {g : G} (hk : Tr.Kids o (h + 1) g) (hp : g.ps = []) (hn : Nd w (h + 1) g) : ∃ k, g.ks = [k] ∧ Tr.Kids o h k ∧ o ≤ k.ps.length + 1 ∧ k.ps.length + 1 ≤ 2 * o ∧ flat (h + 1) g = flat h k ∧ Nd w h k ∧ ∀ b x, foot h k b x → foot (h + 1) g b x := by
 obtain ⟨h1, h2⟩ := hk
 rw [hp] at h1
 obtain ⟨k, hks⟩ := List.length_eq_one_iff.1 h1
 obtain ⟨q1, q2, q3⟩ := h2 k (by rw [hks]; exact List.mem_singleton_self k)
 refine ⟨k, hks, q1, q2, q3, ?_, (hn.2.1 k (by rw [hks]; exact List.mem_singleton_self k)).1, kid_foot (by rw [hks]; exact List.mem_singleton_self k)⟩
 rw [flat_fl, hp, hks]
 have := fl_kid (h := h) (A := []) (C := []) (k := k) (B := []) (D := []) rfl rfl
 refine this.trans ?_
 simp [pre, suf]
theorem TreeM.under {w : World} {b o n h h' : Nat} {g k : G} (t : TreeM w b o n h g) (hk : Nd w h' k) (hf : ∀ c x, foot h' k c x → foot h g c x) : TreeM (w.setCell ⟨b, 2, none⟩ (ptrV k.b)) b o n h' k := by
 refine ⟨?_, ?_, ?_, ?_, ?_, ?_, fun x hx => t.bn x (hf _ _ hx), hk.fr (fr_own w b 2 _) (fun c x hx e => t.bn x (by cases e; exact hf _ _ hx))⟩
 ·rw [World.cell?_setCell_other _ _ _ _ (by simp)]; exact t.c0
 ·rw [World.cell?_setCell_other _ _ _ _ (by simp)]; exact t.c1
 ·exact World.cell?_setCell_same' _ _ _ (by rw [t.c2]; rfl)
 ·rw [World.frozen?_setCell]; exact t.f0
 ·rw [World.frozen?_setCell]; exact t.f1
 ·rw [World.frozen?_setCell]; exact t.f2
set_option maxHeartbeats 4000000 in
set_option maxRecDepth 100000 in
theorem tree_del (b o h : Nat) (g : G) (key : Str) (hk : okTk key = true) (hc : (flat h g).length ≤ 1000000000) (w : World) (hT : TreeAt w b o h g) :
  Calls Tryz.prog 71 #[ptrV b, .string ⟨key.toArray⟩] w (DelTree w b o h g key) := by
 obtain ⟨n, hn⟩ : ∃ n, (flat h g).length = n := ⟨_, rfl⟩
 have hTM := hT.m
 rw [hn] at hTM hc
 have HG := Lib.hid hT.good
 have HC := Lib.hid (fun W => checkT_any b key W)
 rw [show chkT key = 0 by unfold chkT; rw [hk]; rfl] at HC
 have x0 := hTM.c0
 have x2 := hTM.c2
 obtain ⟨old, hold⟩ : ∃ x, oldS key (flat h g) = x := ⟨_, rfl⟩
 obtain ⟨was, hwas⟩ : ∃ x, (get key (flat h g)).isSome = x := ⟨_, rfl⟩
 have HI : Hid (Sorted (del key (flat h g))) := Lib.hid (HG.out.sorted.del _)
 obtain ⟨n2, hn2⟩ : ∃ n2, (del key (flat h g)).length = n2 := ⟨_, rfl⟩
 have hlen : n2 + (if was then 1 else 0) = n := by
  rw [← hn2, ← hn, ← del_len key (flat h g), ← hwas]
  cases get key (flat h g) <;> rfl
 have HO : Hid (was = false → old = []) := Lib.hid (fun e => by
  have hg : get key (flat h g) = none := Option.not_isSome_iff_eq_none.1 (by rw [hwas, e]; simp)
  rw [← hold, oldS, hg]; rfl)
 have HR := Lib.hid (And.intro hold (And.intro hwas hn2))
 have HREM : Hid (∀ (W : World), Below w.heap.size w W → Calls Tryz.prog 99 #[ptrV g.b, .string ⟨key.toArray⟩, .int .i64 o] W fun e V => e = .returned (.tuple #[.string ⟨old.toArray⟩, .bool was]) ∧ ∃ g', Hid (DelP o h g key g') ∧ (V.cell? ⟨b, 0, none⟩ = some (.int .i64 o) ∧ V.cell? ⟨b, 2, none⟩ = some (ptrV g.b)) ∧ V.cell? ⟨b, 1, none⟩ = some (.int .i64 n) ∧ Hid (TreeM V b o n h g' ∧ Fr (treeF b h g) w V ∧ Grew w (treeF b h g) (treeF b h g'))) := Lib.hid (fun W hb => by
  have hW := hTM.later hb
  refine (remove_any o HG.out.o2 (by have := HG.out.o16; omega) key h g W HG.out.kids HG.out.sorted HG.out.pos (by have := HG.out.hi; have := HG.out.o16; omega) hW.nd).mono ?_
  rintro e V ⟨rfl, g', hP, hN, hf, hgr⟩
  have hm := hW.turn hf hN hgr hP.b
  refine ⟨by rw [← hold, ← hwas], g', Lib.hid hP, ⟨hm.c0, by rw [← hP.b]; exact hm.c2⟩, hm.c1, Lib.hid ⟨hm, (Fr.ofBelow hb _).trans hf (fun _ _ h => .inl (.inr h)), ?_⟩⟩
  rintro k x (rfl | hx)
  ·exact .inl (.inl rfl)
  ·rcases hgr k x hx with h1 | h1
   ·exact .inl (.inr h1)
   ·exact .inr (Nat.le_trans hb.size h1))
 have HT := Lib.hid hTM
 have hn3 : (n : Int) ≤ 1000000000 := by omega
 have HLEN := Lib.hid hlen
 clear hT hTM hn hold hwas hn2 hk hlen hc
 go_enter Tryz.func71, Tryz.ntmps71
 go_wp2_with (go_at_call 93; refine (HC.out _).mono ?_; rintro e V ⟨rfl, rfl⟩)
 go_region_held3 (fun V => V.cell? ⟨b, 0, none⟩ = some (.int .i64 o) ∧ V.cell? ⟨b, 2, none⟩ = some (ptrV g.b))
  (first | exact ⟨x0, x2⟩ | exact y0)
  ((go_at_call 99; refine (HREM.out _ (below_drewN _ 1)).mono ?_; rintro e V ⟨rfl, g', HP, y0, y1, HM0⟩))
 rename_i hHeld
 clear hHeld
 obtain ⟨y0, y2⟩ := y0
 cases was with
 | false =>
  go_wp2
  go_ret2
  have hno := HP.out.no (Option.not_isSome_iff_eq_none.1 (by rw [HR.out.2.1]; simp))
  refine ⟨by rw [HR.out.1, HR.out.2.1, show old = [] from HO.out trivial]; rfl, h, g', ⟨?_, ⟨HG.out.o2, HG.out.o16, HP.out.kids, by rw [HP.out.flat]; exact HI.out, by rw [hno]; exact HG.out.hi, fun h0 => by rw [hno]; exact HG.out.pos h0⟩⟩, HP.out.flat, HM0.out.2.1, HM0.out.2.2, .inl ⟨rfl, by rw [hno]; exact Nat.le_refl _⟩⟩
  rw [HP.out.flat, HR.out.2.2, show n2 = n from HLEN.out]
  exact HM0.out.1
 | true =>
  have s1 := HM0.out.1.f1
  have hne : ¬ g.b = b := fun e => HM0.out.1.bn 0 (topF_foot h g' b 0 (.inl (by rw [HP.out.b]; exact e.symm)))
  have hne2 : ¬ b = g.b := fun e => hne e.symm
  have hn4 : (n2 : Int) = n - 1 := by have := HLEN.out; simp at this; omega
  have HM : Hid (TreeM (V.setCell ⟨b, 1, none⟩ (.int .i64 ((n : Int) - 1))) b o n2 h g' ∧ Fr (treeF b h g) w (V.setCell ⟨b, 1, none⟩ (.int .i64 ((n : Int) - 1))) ∧ Grew w (treeF b h g) (treeF b h g')) := by
   rw [← hn4]
   exact Lib.hid ⟨HM0.out.1.count n2, HM0.out.2.1.trans (fr_own V b 1 _) (fun k _ e => .inl (.inl e)), HM0.out.2.2⟩
  have hn1 : (1 : Int) ≤ n := by omega
  clear hn4
  obtain ⟨qa, qc, ka, kc, ht⟩ := HM0.out.1.nd.top
  have z0 := ht.c0
  have z1 := ht.c1
  have z2 := HM0.out.1.f2
  obtain ⟨s, hs⟩ : ∃ s, g'.ps.length = s := ⟨_, rfl⟩
  obtain ⟨r, hr⟩ : ∃ r, g'.ks.length = r := ⟨_, rfl⟩
  rw [hs, HP.out.b] at z0
  rw [hr, HP.out.b] at z1
  have HS := Lib.hid (And.intro hs hr)
  have hsn : s ≤ 100 := by have := HP.out.hi; have := HG.out.hi; have := HG.out.o16; omega
  clear ht hs hr
  by_cases h0 : s = 0
  ·subst h0
   cases h with
   | zero =>
    have hr0 : r = 0 := by
     have : g'.ks = [] := HP.out.kids
     rw [← HS.out.2, this]; rfl
    subst hr0
    have HLF := Lib.hid (fun W hc => leaf_raw g.b ka 0 kc true rfl (by omega) W hc)
    have z1' : (V.setCell ⟨b, 1, none⟩ (.int .i64 ((n : Int) - 1))).cell? ⟨g.b, 1, none⟩ = some (.slice ka 0 kc) := by rw [World.cell?_setCell_other _ _ _ _ (by simp)]; exact z1
    go_wp2_with (go_at_call 100; refine (HLF.out _ z1').mono ?_; rintro e W2 ⟨rfl, rfl⟩)
    go_ret2
    refine ⟨by rw [HR.out.1, HR.out.2.1]; rfl, 0, g', ⟨by rw [HP.out.flat, HR.out.2.2]; exact HM.out.1, ⟨HG.out.o2, HG.out.o16, HP.out.kids, by rw [HP.out.flat]; exact HI.out, by have := HP.out.hi; have := HG.out.hi; omega, fun h0 => absurd h0 (Nat.lt_irrefl 0)⟩⟩, HP.out.flat, HM.out.2.1, HM.out.2.2, .inl ⟨rfl, HP.out.hi⟩⟩
   | succ h =>
    obtain ⟨k, u1, u2, u3, u4, u5, u6, u7⟩ := root_under HP.out.kids (List.eq_nil_of_length_eq_zero HS.out.1) HM.out.1.nd
    have hr1 : r = 1 := by rw [← HS.out.2, u1]; rfl
    subst hr1
    have HLF := Lib.hid (fun W hc => leaf_raw g.b ka 1 kc false rfl (by omega) W hc)
    have z1' : (V.setCell ⟨b, 1, none⟩ (.int .i64 ((n : Int) - 1))).cell? ⟨g.b, 1, none⟩ = some (.slice ka 1 kc) := by rw [World.cell?_setCell_other _ _ _ _ (by simp)]; exact z1
    obtain ⟨qa', qc', ka', kc', ht⟩ := HM.out.1.nd.top
    obtain ⟨kb, ko, rfl, e1, _⟩ := ht.kid (i := 0) (k := k) (by rw [u1]; rfl)
    rw [Nat.add_zero] at e1
    have hka := ht.c1
    rw [HS.out.2, HP.out.b, z1'] at hka
    obtain ⟨rfl, rfl⟩ : ka = some ⟨kb, ko, none⟩ ∧ kc = kc' := by simpa using hka
    clear hka ht
    have HE := Lib.hid (HM.out.1.under u6 u7)
    have HU := Lib.hid (And.intro u2 (And.intro u3 (And.intro u4 u5)))
    have HU7 := Lib.hid u7
    clear u1 u2 u3 u4 u5 u6 u7
    go_wp2_with (go_at_call 100; refine (HLF.out _ z1').mono ?_; rintro e W2 ⟨rfl, rfl⟩)
    go_ret2
    refine ⟨by rw [HR.out.1, HR.out.2.1]; rfl, h, k, ⟨?_, ⟨HG.out.o2, HG.out.o16, HU.out.1, by rw [← HU.out.2.2.2, HP.out.flat]; exact HI.out, HU.out.2.2.1, fun _ => by have := HU.out.2.1; have := HG.out.o2; omega⟩⟩, by rw [← HU.out.2.2.2]; exact HP.out.flat, HM.out.2.1.trans (fr_own _ b 2 _) (fun c _ e => .inl (.inl e)), ?_, .inr rfl⟩
    ·rw [← HU.out.2.2.2, HP.out.flat, HR.out.2.2]
     exact HE.out
    ·rintro c x (e | e)
     ·exact .inl (.inl e)
     ·exact HM.out.2.2 c x (.inr (HU7.out c x e))
  ·have hs0 : ¬ (s : Int) = 0 := by omega
   have hs1 : ((s : Int) == 0) = false := by simp [h0]
   have hsi : (s : Int) ≤ 100 := by omega
   go_wp2
   go_ret2
   refine ⟨by rw [HR.out.1, HR.out.2.1]; rfl, h, g', ⟨by rw [HP.out.flat, HR.out.2.2]; exact HM.out.1, ⟨HG.out.o2, HG.out.o16, HP.out.kids, by rw [HP.out.flat]; exact HI.out, by have := HP.out.hi; have := HG.out.hi; omega, fun _ => by rw [HS.out.1]; omega⟩⟩, HP.out.flat, HM.out.2.1, HM.out.2.2, .inl ⟨rfl, HP.out.hi⟩⟩
end Go.Proofs.YtecnijnmgdfdhaaGreat

namespace Go.Proofs.YtecnijnmgdfdhaaGreat
open Go.RowKit Tr
open Ky (less)

def ckey (a : Option Pr) : Str := match a with | none => [] | some p => p.1
def cval (a : Option Pr) : Str := match a with | none => [] | some p => p.2
def ccode (a : Option Pr) : Int := match a with | none => 14 | some _ => 0
structure Down (w wr : World) (o h : Nat) (g : G) (key : Str) (k : Nat) (gc : G) (acc : Option Pr) : Prop where
 b : Below w.heap.size w wr
 kids : Tr.Kids o k gc
 sorted : Sorted (flat k gc)
 nd : Nd w k gc
 len : gc.ps.length ≤ 1000
 ans : ceil key (flat h g) = (ceil key (flat k gc)).or acc
theorem Down.found {w wr : World} {o h k : Nat} {g gc : G} {key u : Str} {acc : Option Pr} {C D : List Pr} (d : Down w wr o h g key k gc acc) (hp : gc.ps = C ++ (key, u) :: D) : ceil key (flat h g) = some (key, u) := by
 have hs := d.sorted
 have h1 := ((kids_iff o k gc).1 d.kids).1
 rw [flat_fl, hp] at hs
 rw [hp] at h1
 rw [d.ans, flat_fl, hp, ceil_node h1 hs]
 rfl
theorem Down.leaf {w wr : World} {o h : Nat} {g gc : G} {key : Str} {acc : Option Pr} {C D : List Pr} (d : Down w wr o h g key 0 gc acc) (hp : gc.ps = C ++ D) (hC : Bel C key) (hD : Abv D key) : ceil key (flat h g) = D.head?.or acc := by
 rw [d.ans, flat_fl, hp, ceil_leaf hC hD]
theorem Down.kid {w wr W : World} {o h k : Nat} {g gc kd : G} {key : Str} {acc : Option Pr} {A B : List G} {C D : List Pr} (d : Down w wr o h g key (k + 1) gc acc) (hp : gc.ps = C ++ D) (hC : Bel C key) (hD : Abv D key) (hks : gc.ks = A ++ kd :: B) (ha : A.length = C.length) (ho : o ≤ 16) (hb : Below w.heap.size w W) : Down w W o h g key k kd (D.head?.or acc) := by
 obtain ⟨_, q1, q2, q3, q4⟩ := get_kid_ d.kids d.sorted hC hD hp hks ha
 obtain ⟨h1, _⟩ := (kids_iff o (k + 1) gc).1 d.kids
 rw [hks, hp] at h1
 have hbl : B.length = D.length := by simp [Arity] at h1; omega
 have hs := d.sorted
 rw [flat_fl, hp, hks] at hs
 refine ⟨hb, q2, q1, (d.nd.kidOf hks).1, by omega, ?_⟩
 rw [d.ans, flat_fl, hp, hks, ceil_kid ha hbl hs hC hD, Option.or_assoc]
set_option maxHeartbeats 4000000 in
set_option maxRecDepth 100000 in
theorem ceil_walk (b o h : Nat) (g : G) (key : Str) (w : World) (hT : TreeAt w b o h g) :
  Calls Tryz.prog 89 #[ptrV b, .string ⟨key.toArray⟩] w fun e V => e = .returned (.tuple #[.string ⟨(ckey (ceil key (flat h g))).toArray⟩, .string ⟨(cval (ceil key (flat h g))).toArray⟩, .int .i64 (ccode (ceil key (flat h g)))]) ∧ Below w.heap.size w V := by
 have x2 := hT.m.c2
 have ho := hT.good.o16
 have HO := Lib.hid ho
 have H0 : Hid (Down w w o h g key h g none) := Lib.hid ⟨Below.refl _ _, hT.good.kids, hT.good.sorted, hT.m.nd, by have := hT.good.hi; omega, by simp⟩
 obtain ⟨R, hR⟩ : ∃ R, ceil key (flat h g) = R := ⟨_, rfl⟩
 have HR := Lib.hid hR
 rw [hR]
 clear hT hR ho
 go_enter Tryz.func89, Tryz.ntmps89
 go_wp2
 go_step3
 go_wp2
 go_step3
 go_wp2
 go_loopg [4, 5, 6, 7] h (fun k kk vv cc nn wr => ∃ (gc : G) (acc : Option Pr), kk = .string ⟨(ckey acc).toArray⟩ ∧ vv = .string ⟨(cval acc).toArray⟩ ∧ cc = .int .i64 (ccode acc) ∧ nn = ptrV gc.b ∧ Hid (Down w wr o h g key k gc acc))
 case atStart => exact ⟨g, none, rfl, rfl, rfl, rfl, H0⟩
 case round =>
  obtain ⟨gc, acc, rfl, rfl, rfl, rfl, HB⟩ := hrel
  obtain ⟨pa, pc, ka, kc, ht⟩ := HB.out.nd.top
  have hks := pairs_sorted ((kids_iff o gk gc).1 HB.out.kids).1 (by rw [← flat_fl]; exact HB.out.sorted)
  obtain ⟨C, D, hp, _, hC, hD⟩ := split_at key gc.ps hks
  have hlen := HB.out.len
  have htr := ht.later HB.out.b
  have HF := Lib.hid (find_any gc key hks (by omega) wr ⟨_, _, _, _, htr⟩)
  have c0 := htr.c0
  have c1 := htr.c1
  obtain ⟨n, hn⟩ : ∃ n, gc.ps.length = n := ⟨_, rfl⟩
  obtain ⟨i, hi⟩ : ∃ i, C.length = i := ⟨_, rfl⟩
  obtain ⟨r, hr⟩ : ∃ r, gc.ks.length = r := ⟨_, rfl⟩
  have hgb : gc.b < wr.heap.size := block_of_cell c0
  rw [hn] at c0 hlen
  rw [hr] at c1
  have HG := Lib.hid (And.intro hgb hp)
  rcases hD with ⟨u, D', rfl, _⟩ | hD
  ·have hpl : pl key gc.ps = C.length := by rw [hp, pl_left hC, pl, if_neg (by rw [Ky.less_self]; decide)]; omega
   have hpi : gc.ps[C.length]? = some (key, u) := by rw [hp]; simp
   have hat : hasAt key gc.ps = true := by unfold hasAt; rw [hpl, hpi]; simp
   rw [hpl, hat, hi] at HF
   obtain ⟨pb, po, rfl, p1, p2, _⟩ := htr.pair hpi
   have hlt : i < n := by rw [← hi, ← hn]; exact (List.getElem?_eq_some_iff.1 hpi).1
   rw [hi] at p1 p2
   simp only at p1 p2
   have HE : Hid (R = some (key, u)) := Lib.hid (HR.out.symm.trans (HB.out.found hp))
   have hi0 : (0 : Int) ≤ (i : Int) := by omega
   have hi1 : (i : Int) < (n : Int) := by omega
   have hi2 : (n : Int) ≤ 1000 := by omega
   clear ht hks hp hC htr hn hi hr hgb hpl hpi hat
   go_wp2_with (go_at_call 124; refine HF.out.mono ?_; rintro e W ⟨rfl, hb⟩; have H1 := Lib.hid hb; have y0 := old_cell c0 hb; have y1 := old_cell c1 hb; have y2 := old_cell p1 hb; have y3 := old_cell p2 hb; clear hb)
   go_quiet (fail)
   go_wp2
   rw [Exit.noGoto_ret]
   go_ret3
   rw [HE.out]
   exact ⟨rfl, HB.out.b.trans ((H1.out.trans ((below_drewN W nq).mono H1.out.size)).mono HB.out.b.size)⟩
  ·obtain ⟨hpl, hat⟩ := at_no hC hD
   rw [← hp] at hpl hat
   rw [hpl, hat, hi] at HF
   cases gk with
   | zero =>
    have hr0 : r = 0 := by
     have : gc.ks = [] := HB.out.kids
     rw [← hr, this]; rfl
    subst hr0
    have hans := HR.out.symm.trans (HB.out.leaf hp hC hD)
    have HLF := Lib.hid (fun W hc => leaf_raw gc.b ka 0 kc true rfl (by omega) W hc)
    cases D with
    | nil =>
     have HE : Hid (R = acc) := Lib.hid hans
     have hin : i = n := by rw [← hi, ← hn, hp]; simp
     subst hin
     have hi1 : ¬ (i : Int) < (i : Int) := by omega
     have hi2 : (i : Int) ≤ 1000 := by omega
     clear ht hks hp hC hD htr hn hi hr hgb hpl hat hans
     go_wp2_with (first | (go_at_call 124; refine HF.out.mono ?_; rintro e W ⟨rfl, hb⟩; have H1 := Lib.hid hb; have y0 := old_cell c0 hb; have y1 := old_cell c1 hb; clear hb) | (go_at_call 100; refine (HLF.out _ y1).mono ?_; rintro e W2 ⟨rfl, rfl⟩))
     rw [Exit.noGoto_ret]
     go_ret3
     rw [HE.out]
     exact ⟨rfl, HB.out.b.trans ((H1.out).mono HB.out.b.size)⟩
    | cons d D =>
     have HE : Hid (R = some d) := Lib.hid hans
     have hpi : gc.ps[C.length]? = some d := by rw [hp]; simp
     obtain ⟨pb, po, rfl, p1, p2, _⟩ := htr.pair hpi
     have hlt : i < n := by rw [← hi, ← hn]; exact (List.getElem?_eq_some_iff.1 hpi).1
     rw [hi] at p1 p2
     have hi0 : (0 : Int) ≤ (i : Int) := by omega
     have hi1 : (i : Int) < (n : Int) := by omega
     have hi2 : (n : Int) ≤ 1000 := by omega
     clear ht hks hp hC hD htr hn hi hr hgb hpl hat hans hpi
     go_wp2_with (first | (go_at_call 124; refine HF.out.mono ?_; rintro e W ⟨rfl, hb⟩; have H1 := Lib.hid hb; have y0 := old_cell c0 hb; have y1 := old_cell c1 hb; have y2 := old_cell p1 hb; have y3 := old_cell p2 hb; clear hb) | (go_at_call 100; refine (HLF.out _ y1).mono ?_; rintro e W2 ⟨rfl, rfl⟩))
     go_quiet (fail)
     go_wp2_with (go_at_call 100; refine (HLF.out _ (old_cell y1 (below_drewN _ nq))).mono ?_; rintro e W2 ⟨rfl, rfl⟩)
     rw [Exit.noGoto_ret]
     go_ret3
     rw [HE.out]
     exact ⟨rfl, HB.out.b.trans ((H1.out.trans ((below_drewN W nq).mono H1.out.size)).mono HB.out.b.size)⟩
   | succ k =>
    obtain ⟨A, kd, B, hks2, ha⟩ := kid_at HB.out.kids hp
    have hkm : gc.ks[C.length]? = some kd := by rw [hks2, ← ha]; exact kid_get _ _ _
    obtain ⟨kb, ko, rfl, k1, _⟩ := htr.kid hkm
    have hir : i < r := by rw [← hi, ← hr]; exact (List.getElem?_eq_some_iff.1 hkm).1
    rw [hi] at k1
    have hrn : r = n + 1 := by
     have : gc.ks.length = gc.ps.length + 1 := ((kids_iff o (k + 1) gc).1 HB.out.kids).1
     omega
    subst hrn
    have HLF := Lib.hid (fun W hc => leaf_raw gc.b (some ⟨kb, ko, none⟩) (n + 1) kc false rfl (by omega) W hc)
    have HD : Hid (∀ W, Below w.heap.size w W → Down w W o h g key k kd (D.head?.or acc)) := Lib.hid (fun W hb => HB.out.kid hp hC hD hks2 ha HO.out hb)
    have hi0 : (0 : Int) ≤ (i : Int) := by omega
    have hi1 : (i : Int) < (n : Int) + 1 := by omega
    have hi3 : (i : Int) < ((n + 1 : Nat) : Int) := by omega
    have hi2 : (n : Int) ≤ 1000 := by omega
    cases D with
    | nil =>
     have hin : i = n := by rw [← hi, ← hn, hp]; simp
     subst hin
     have hi4 : ¬ (i : Int) < (i : Int) := by omega
     clear ht hks hp hC hD htr hn hi hr hgb hpl hat hks2 ha hkm
     go_wp2_with (first | (go_at_call 124; refine HF.out.mono ?_; rintro e W ⟨rfl, hb⟩; have H1 := Lib.hid hb; have y0 := old_cell c0 hb; have y1 := old_cell c1 hb; have y4 := old_cell k1 hb; clear hb) | (go_at_call 100; refine (HLF.out _ y1).mono ?_; rintro e W2 ⟨rfl, rfl⟩))
     go_roundg k
     case measure => omega
     case rel => exact ⟨kd, acc, rfl, rfl, rfl, rfl, Lib.hid (HD.out _ (HB.out.b.trans ((H1.out).mono HB.out.b.size)))⟩
    | cons d D =>
     have hpi : gc.ps[C.length]? = some d := by rw [hp]; simp
     obtain ⟨pb, po, rfl, p1, p2, _⟩ := htr.pair hpi
     have hlt : i < n := by rw [← hi, ← hn]; exact (List.getElem?_eq_some_iff.1 hpi).1
     rw [hi] at p1 p2
     have hi4 : (i : Int) < (n : Int) := by omega
     clear ht hks hp hC hD htr hn hi hr hgb hpl hat hks2 ha hkm hpi
     go_wp2_with (first | (go_at_call 124; refine HF.out.mono ?_; rintro e W ⟨rfl, hb⟩; have H1 := Lib.hid hb; have y0 := old_cell c0 hb; have y1 := old_cell c1 hb; have y2 := old_cell p1 hb; have y3 := old_cell p2 hb; have y4 := old_cell k1 hb; clear hb) | (go_at_call 100; refine (HLF.out _ y1).mono ?_; rintro e W2 ⟨rfl, rfl⟩))
     go_quiet (fail)
     go_wp2_with (go_at_call 100; refine (HLF.out _ (old_cell y1 (below_drewN _ nq))).mono ?_; rintro e W2 ⟨rfl, rfl⟩)
     go_roundg k
     case measure => omega
     case rel => exact ⟨kd, some d, rfl, rfl, rfl, rfl, Lib.hid (HD.out _ (HB.out.b.trans ((H1.out.trans ((below_drewN W nq).mono H1.out.size)).mono HB.out.b.size)))⟩
end Go.Proofs.YtecnijnmgdfdhaaGreat

namespace Go.Proofs.YtecnijnmgdfdhaaGreat
open Go.RowKit Tr
open Ky (less)

theorem str_neq (t : TypeId) (a b : List UInt8) : binOp .neq t (.string ⟨a.toArray⟩) (.string ⟨b.toArray⟩) = pure (.bool (!(a == b))) := by
 simp [binOp, Op.stringOp]
def cdel (key : Str) (L : List Pr) : Int := if (get key L).isSome then 0 else 14
set_option maxHeartbeats 1000000 in
theorem get_walk (b o h : Nat) (g : G) (key : Str) (hk : okTk key = true) (w : World) (hT : TreeAt w b o h g) :
  Calls Tryz.prog 90 #[ptrV b, .string ⟨key.toArray⟩] w fun e V => e = .returned (.tuple #[.string ⟨(oldS key (flat h g)).toArray⟩, .int .i64 (cdel key (flat h g))]) ∧ Below w.heap.size w V := by
 have HC := Lib.hid (fun W => checkT_any b key W)
 rw [show chkT key = 0 by unfold chkT; rw [hk]; rfl] at HC
 have HL := Lib.hid (ceil_walk b o h g key w hT)
 obtain ⟨L, hL⟩ : ∃ L, flat h g = L := ⟨_, rfl⟩
 rw [hL] at HL ⊢
 have HG := Lib.hid (get_ceil key L)
 clear hT hL hk
 obtain ⟨R, hR⟩ : ∃ R, ceil key L = R := ⟨_, rfl⟩
 rw [hR] at HL HG
 clear hR
 cases R with
 | none =>
  have HE : Hid (get key L = none) := HG
  go_enter Tryz.func90, Tryz.ntmps90
  go_wp2_with (first
   | (go_at_call 93; refine (HC.out _).mono ?_; rintro e V ⟨rfl, rfl⟩)
   | (go_at_call 89; refine HL.out.mono ?_; rintro e V ⟨rfl, hb⟩; have HB := Lib.hid hb; clear hb; simp only [ckey, cval, ccode]))
  go_ret2
  rw [oldS, cdel, HE.out]
  exact ⟨rfl, HB.out⟩
 | some q =>
  have hq := str_neq 9 q.1 key
  by_cases hk : q.1 = key
  ·have HE : Hid (get key L = some q.2) := Lib.hid (by rw [HG.out]; simp [hk])
   have hk2 : (q.1 == key) = true := by rw [hk]; simp
   rw [hk2] at hq
   clear hk hk2
   go_enter Tryz.func90, Tryz.ntmps90
   go_wp2_with (first
    | (go_at_call 93; refine (HC.out _).mono ?_; rintro e V ⟨rfl, rfl⟩)
    | (go_at_call 89; refine HL.out.mono ?_; rintro e V ⟨rfl, hb⟩; have HB := Lib.hid hb; clear hb; simp only [ckey, cval, ccode]))
   go_ret2
   rw [oldS, cdel, HE.out]
   exact ⟨rfl, HB.out⟩
  ·have HE : Hid (get key L = none) := Lib.hid (by rw [HG.out]; simp [hk])
   have hk2 : (q.1 == key) = false := by simp [hk]
   rw [hk2] at hq
   clear hk hk2
   go_enter Tryz.func90, Tryz.ntmps90
   go_wp2_with (first
    | (go_at_call 93; refine (HC.out _).mono ?_; rintro e V ⟨rfl, rfl⟩)
    | (go_at_call 89; refine HL.out.mono ?_; rintro e V ⟨rfl, hb⟩; have HB := Lib.hid hb; clear hb; simp only [ckey, cval, ccode]))
   go_ret2
   rw [oldS, cdel, HE.out]
   exact ⟨rfl, HB.out⟩
def Says (p : Option Addr) (key : Str) (c : Int) : Prop := ∀ W, Calls Tryz.prog 93 #[.pointer p, .string ⟨key.toArray⟩] W fun e w' => e = .returned (.int .i64 c) ∧ W = w'
theorem says_key (b : Nat) (key : Str) (hk : okTk key = false) : Says (some ⟨b, 0, none⟩) key 13 := fun W => by
 have := checkT_any b key W
 rwa [show chkT key = 13 by unfold chkT; rw [hk]; rfl] at this
set_option maxHeartbeats 1000000 in
theorem get_code (p : Option Addr) (key : Str) (c : Int) (hc : c = 2 ∨ c = 13) (hs : Says p key c) (w : World) :
  Calls Tryz.prog 90 #[.pointer p, .string ⟨key.toArray⟩] w fun e V => e = .returned (.tuple #[.string ⟨#[]⟩, .int .i64 c]) ∧ w = V := by
 have HC := Lib.hid hs
 clear hs
 rcases hc with rfl | rfl
 all_goals
  go_enter Tryz.func90, Tryz.ntmps90
  go_wp2_with (go_at_call 93; refine (HC.out _).mono ?_; rintro e V ⟨rfl, rfl⟩)
  go_ret2
  exact ⟨rfl, rfl⟩
set_option maxHeartbeats 1000000 in
theorem del_code (p : Option Addr) (key : Str) (c : Int) (hc : c = 2 ∨ c = 13) (hs : Says p key c) (w : World) :
  Calls Tryz.prog 71 #[.pointer p, .string ⟨key.toArray⟩] w fun e V => e = .returned (.tuple #[.string ⟨#[]⟩, .int .i64 c]) ∧ w = V := by
 have HC := Lib.hid hs
 clear hs
 rcases hc with rfl | rfl
 all_goals
  go_enter Tryz.func71, Tryz.ntmps71
  go_wp2_with (go_at_call 93; refine (HC.out _).mono ?_; rintro e V ⟨rfl, rfl⟩)
  go_ret2
  exact ⟨rfl, rfl⟩
set_option maxHeartbeats 1000000 in
theorem put_code (p : Option Addr) (key v : Str) (c : Int) (hc : c = 2 ∨ c = 13) (hs : Says p key c) (w : World) :
  Calls Tryz.prog 68 #[.pointer p, .string ⟨key.toArray⟩, .string ⟨v.toArray⟩] w fun e V => e = .returned (.tuple #[.string ⟨#[]⟩, .bool false, .int .i64 c]) ∧ w = V := by
 have HC := Lib.hid hs
 clear hs
 rcases hc with rfl | rfl
 all_goals
  go_enter Tryz.func68, Tryz.ntmps68
  go_wp2_with (go_at_call 93; refine (HC.out _).mono ?_; rintro e V ⟨rfl, rfl⟩)
  go_ret3
  exact ⟨rfl, rfl⟩
set_option maxHeartbeats 1000000 in
theorem put_long (b : Nat) (key v : Str) (hk : okTk key = true) (hv : 256 < v.length) (w : World) :
  Calls Tryz.prog 68 #[ptrV b, .string ⟨key.toArray⟩, .string ⟨v.toArray⟩] w fun e V => e = .returned (.tuple #[.string ⟨#[]⟩, .bool false, .int .i64 23]) ∧ w = V := by
 have HC := Lib.hid (fun W => checkT_any b key W)
 rw [show chkT key = 0 by unfold chkT; rw [hk]; rfl] at HC
 have hv2 : (256 : Int) < v.length := by omega
 clear hk hv
 go_enter Tryz.func68, Tryz.ntmps68
 go_wp2_with (go_at_call 93; refine (HC.out _).mono ?_; rintro e V ⟨rfl, rfl⟩)
 go_ret3
 exact ⟨rfl, rfl⟩
end Go.Proofs.YtecnijnmgdfdhaaGreat

namespace Go.Proofs.YtecnijnmgdfdhaaGreat
open Go.RowKit Tr

end Go.Proofs.YtecnijnmgdfdhaaGreat
