/- Joined: Tab8, Tab9, Tab10. -/
import Derived.Test.YtecnijnmgdfdhaaGreatYTab7
import Derived.Test.YtecnijnmgdfdhaaGreatYTreeF
import Derived.WalkMore
import Derived.Control
/- A table's making. -/
namespace Go.Proofs.YtecnijnmgdfdhaaGreat
namespace Tb
open Go.RowKit Tr
open Ky (less)
def nc (most : Nat) (b : Nat → Nat) (j : Nat) : List Value := .int .i64 most :: (List.range 5).map fun i => if i < j then ptrV (b i) else .pointer none
def trs (o : Nat) (b : Nat → Nat) : Nat → List Rs
  | 0 => []
  | j + 1 => TreeR (b j) o [] :: trs o b j
def updB (b : Nat → Nat) (j x : Nat) : Nat → Nat := fun i => if i = j then x else b i
theorem trs_congr {o : Nat} {b b' : Nat → Nat} : ∀ {j : Nat}, (∀ i, i < j → b i = b' i) → trs o b j = trs o b' j
  | 0, _ => rfl
  | j + 1, h => by unfold trs; rw [h j (by omega), trs_congr (fun i hi => h i (by omega))]
theorem nc_set (most : Nat) (b : Nat → Nat) (j x : Nat) (hj : j < 5) : (nc most b j).set (1 + j) (ptrV x) = nc most (updB b j x) (j + 1) := by
  have : j = 0 ∨ j = 1 ∨ j = 2 ∨ j = 3 ∨ j = 4 := by omega
  rcases this with rfl | rfl | rfl | rfl | rfl <;> rfl
theorem nc_get (most : Nat) (b : Nat → Nat) (j : Nat) (hj : j < 5) : (nc most b j)[1 + j]? = some (.pointer none) := by
  have : j = 0 ∨ j = 1 ∨ j = 2 ∨ j = 3 ∨ j = 4 := by omega
  rcases this with rfl | rfl | rfl | rfl | rfl <;> rfl
section
variable {B : Nat} {w0 w V : World} {X Y : List Rs} {tb most o : Nat} {L : List Pr} {k : Str}
theorem own_cellSet {P i : Nat} {vs : List Value} (h : Own B w0 (CellsR P vs :: X) w) (hi : i < vs.length) (v : Value) : Own B w0 (CellsR P (vs.set i v) :: X) (w.setCell ⟨P, i, none⟩ v) := by
  obtain ⟨F, h1, _, hk⟩ := h.open1
  exact hk _ [_] (CellsR.set h1 hi v)
set_option maxHeartbeats 1000000 in
theorem own_tabNew (most o : Nat) (hm : 1 ≤ most ∧ most ≤ 1024) (h2 : 2 ≤ o) (h16 : o ≤ 16) (h : Own B w0 X w) :
    Calls Tryz.prog 45 #[.int .i64 most, .int .i64 o] w fun e V => ∃ tb, e = .returned (.tuple #[ptrV tb, .int .i64 0]) ∧ Own B w0 (TabR tb most o [] :: X) V := by
  have HN := Lib.hid (fun V Y (h : Own B w0 Y V) => own_new o h2 h16 h)
  have H0 := Lib.hid (own_cells h #[.int .i64 most, .pointer none, .pointer none, .pointer none, .pointer none, .pointer none] 124)
  have HM := Lib.hid hm
  have g1 : ¬ (most : Int) < 1 := by omega
  have g2 : ¬ (1024 : Int) < most := by omega
  have hd : decide ((most : Int) < 1) = false := by simpa using g1
  obtain ⟨tb, htb⟩ : ∃ tb, w.heap.size = tb := ⟨_, rfl⟩
  rw [htb] at H0
  clear h hm h2 h16
  go_enter Tryz.func45, Tryz.ntmps45
  go_wp2
  clear htb
  go_loopw [19] (fun i wr => ∃ (j : Nat) (b : Nat → Nat), j ≤ 5 ∧ i = .int .i64 j ∧ Hid (Own B w0 (CellsR tb (nc most b j) :: (trs o b j ++ X)) wr)) (fun i _ => 5 - (intOf i).toNat)
  case atStart => exact ⟨0, fun _ => 0, by omega, rfl, H0⟩
  case round =>
    obtain ⟨j, b, hj, rfl, HJ⟩ := hrel
    have k0 : (0 : Int) ≤ (j : Int) := by omega
    by_cases hlt : j < 5
    · have k1 : (j : Int) < 5 := by omega
      go_wp2_with (go_at_call 73; refine (HN.out _ _ HJ.out).mono ?_; rintro e V ⟨x, rfl, h3⟩; have H3 := Lib.hid h3.swap; obtain ⟨y0, y1⟩ := own_cellM h3.swap (List.mem_cons_self ..) (i := 1 + j) (nc_get most b j hlt); clear h3)
      go_roundw
      case rel =>
        refine ⟨j + 1, updB b j x, by omega, by go_num, Lib.hid ?_⟩
        have h4 := own_cellSet H3.out (i := 1 + j) (by simp [nc]; omega) (ptrV x)
        rw [nc_set most b j x hlt] at h4
        have e1 : trs o (updB b j x) (j + 1) = TreeR x o [] :: trs o b j := by
          show TreeR (updB b j x j) o [] :: trs o (updB b j x) j = _
          rw [trs_congr (b' := b) (fun i hi => by unfold updB; rw [if_neg (by omega)]), show updB b j x j = x by simp [updB]]
        rw [e1]
        exact h4
      case measure => simp [intOf]; omega
    · obtain rfl : j = 5 := by omega
      go_wp2
      go_ret2
      refine ⟨tb, rfl, ?_⟩
      refine own_untab (b := b) ⟨OkT.nil, by simp, HM.out.1, HM.out.2⟩ ?_
      refine HJ.out.perm ?_
      refine List.Perm.cons _ (List.Perm.append_right X ?_)
      exact (List.reverse_perm (trs o b 5)).symm
end
end Tb
end Go.Proofs.YtecnijnmgdfdhaaGreat

/- The entries that a cursor of an index gives, told one by one. -/
namespace Go.Proofs.YtecnijnmgdfdhaaGreat
namespace Tb
open Go.RowKit Tr
open Ky (less)
attribute [local go_sem] Oper.semAt_some
theorem eight {l : List UInt8} (h : l.length = 8) : ∃ b0 b1 b2 b3 b4 b5 b6 b7, l = [b0, b1, b2, b3, b4, b5, b6, b7] := by
  match l, h with
  | [b0, b1, b2, b3, b4, b5, b6, b7], _ => exact ⟨_, _, _, _, _, _, _, _, rfl⟩
end Tb
end Go.Proofs.YtecnijnmgdfdhaaGreat

/- A table's Find. -/
namespace Go.Proofs.YtecnijnmgdfdhaaGreat
namespace Tb
open Go.RowKit Tr
open Ky (less)
attribute [local go_sem] Oper.semAt_some
section
variable {B : Nat} {w0 w V : World} {X Y : List Rs} {tb most o : Nat} {L : List Pr}
end
end Tb
end Go.Proofs.YtecnijnmgdfdhaaGreat
