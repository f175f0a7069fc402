/- The laws of package sched: SchedPicks. -/
import Derived.Test.YtpfcghigfkhimaaSched9
namespace Go.Proofs.Ytpfcghigfkhimaa
open Go.RowKit

theorem act_cells {w : World} {b o n c : Nat} {L : List ActT} (h : Rd w 3 (some ⟨b, o, none⟩) n c (actsV L)) {j : Nat} {x : ActT} (hj : L[j]? = some x) :
    w.cell? ⟨b, o + j * 3, none⟩ = some (.int .i64 x.1) ∧ w.cell? ⟨b, o + j * 3 + 1, none⟩ = some (.int .i64 x.2.1) ∧ w.cell? ⟨b, o + j * 3 + 2, none⟩ = some (.int .i64 x.2.2) := by
  obtain ⟨b', o', e, h1⟩ := act_at h hj
  cases e
  exact h1
theorem pickAt_pos (n i : Nat) (h : i < n) : pickAt (i : Int) n = i := by
  unfold pickAt
  rw [Int.emod_eq_of_lt (by omega) (by omega)]
  rfl
theorem pickAt_neg (n i : Nat) (h : i < n) : pickAt ((i : Int) - (n : Int)) n = i := by
  unfold pickAt
  rw [Int.sub_emod_right, Int.emod_eq_of_lt (by omega) (by omega)]
  rfl
theorem al_drew {w w1 : World} (h : Below w.heap.size w w1) (o : Obj) (k : Nat) : Below w.heap.size w ((w1.alloc o).drewN k) :=
  (h.alloc h.size o).trans ⟨rfl, rfl, rfl, Nat.le_refl _, fun _ _ => rfl⟩
set_option maxHeartbeats 2000000 in
theorem schedPicks_walk (v : Int) (a : Option Addr) (c : Nat) (L : List ActT) (w : World) (hv : -9223372036854775808 ≤ v ∧ v ≤ 9223372036854775807) (h : Rd w 3 a L.length c (actsV L)) :
    Calls Try.prog 4 #[.int .i64 v, .slice a L.length c] w (Yes w) := by
  have hgd := guardAct
  by_cases h40 : 40 < L.length
  · have h40' : (40 : Int) < (L.length : Int) := by omega
    clear h
    go_enter Try.func4, Try.ntmps4
    go_wp2_with (go_at_call 9; refine (awake_any _).mono ?_; rintro e w4 ⟨rfl, hb⟩; have H4 := Lib.hid hb; clear hb)
    go_ret
    exact ⟨rfl, H4.out⟩
  have h40' : (L.length : Int) ≤ 40 := by omega
  by_cases h0 : L.length = 0
  · have q0 := eqlAct 0 0 0 0 0 0 true (by decide)
    rw [h0] at *
    clear h
    go_enter Try.func4, Try.ntmps4
    go_wp2_with (first
      | (go_at_call 14; refine (pick_none _ _ _ _).mono ?_; rintro e w1 ⟨rfl, hb⟩; have H1 := Lib.hid hb; clear hb)
      | (go_at_call 9; refine (awake_any _).mono ?_; rintro e w4 ⟨rfl, hb⟩; have H4 := Lib.hid ((H1.out.alloc (by exact H1.out.size) (.cells #[.int .i64 0, .int .i64 0, .int .i64 0] 35)).trans (hb.mono (by have := H1.out.size; simp; omega))); clear hb))
    go_ret
    exact ⟨rfl, H4.out⟩
  have hq : pickAt v L.length < L.length := by
    unfold pickAt
    have h1 := Int.emod_nonneg v (show (L.length : Int) ≠ 0 by omega)
    have h2 := Int.emod_lt_of_pos v (show (0 : Int) < (L.length : Int) by omega)
    omega
  have hp : (pickAt v L.length : Int) = v % (L.length : Int) := by
    unfold pickAt
    have := Int.emod_nonneg v (show (L.length : Int) ≠ 0 by omega)
    omega
  obtain ⟨⟨k0, v0, i0⟩, hx⟩ : ∃ x, L[pickAt v L.length]? = some x := ⟨_, List.getElem?_eq_getElem hq⟩
  have HP := Lib.hid (fun W h => pick_some v hv a c L (by omega) (by omega) (k0, v0, i0) hx W h)
  have HI := Lib.hid (fun (i : Nat) (hi : i < L.length) (x : ActT) (hx : L[i]? = some x) W h => pick_some (i : Int) (by omega) a c L (by omega) (by omega) x (by rw [pickAt_pos _ _ hi]; exact hx) W h)
  have HJ := Lib.hid (fun (i : Nat) (hi : i < L.length) (x : ActT) (hx : L[i]? = some x) W h => pick_some ((i : Int) - (L.length : Int)) (by omega) a c L (by omega) (by omega) x (by rw [pickAt_neg _ _ hi]; exact hx) W h)
  obtain ⟨b, o, rfl, x0, x1, x2⟩ := act_at h hx
  have HR := Lib.hid h
  have HX := Lib.hid hx
  have hz : ((L.length : Int) == 0) = false := by rw [beq_eq_false_iff_ne]; omega
  have heq := neqAct k0 v0 i0 k0 v0 i0 true (by simp)
  obtain ⟨hv1, hv2⟩ := hv
  generalize pickAt v L.length = q at *
  have q0 : (0 : Int) ≤ (q : Int) := by omega
  have q1 : (q : Int) < (L.length : Int) := by omega
  have hnl : (1 : Int) ≤ (L.length : Int) := by omega
  have hpos : (0 : Int) < (L.length : Int) := by omega
  clear h hx x0 x1 x2 h0 h40
  rcases tmod_pick v L.length (by omega) with ⟨h1, h2⟩ | ⟨h1, h2⟩
  all_goals
    rw [← hp] at h2
    first
      | (have hmod : v.tmod (L.length : Int) = (q : Int) - (L.length : Int) := by omega
         have hng : (q : Int) - (L.length : Int) < 0 := by omega)
      | (have hmod : v.tmod (L.length : Int) = (q : Int) := h2)
    clear h1 h2 hp
    go_enter Try.func4, Try.ntmps4
    go_wp2_with (go_at_call 14; refine (HP.out _ HR.out).mono ?_; rintro e w1 ⟨rfl, hb⟩; have H1 := Lib.hid hb; clear hb; obtain ⟨x0, x1, x2⟩ := act_cells ((HR.out.later H1.out).later (al1 w1 (.cells #[.int .i64 k0, .int .i64 v0, .int .i64 i0] 35))) HX.out; have hbl := block_of_cell x0)
    go_quiet (fail)
    go_wp2
    have HB0 := Lib.hid (al_drew H1.out (.cells #[.int .i64 k0, .int .i64 v0, .int .i64 i0] 35) nq)
    clear x0 x1 x2 heq
    go_loopw [9] (fun i wr => ∃ (n : Nat), n ≤ L.length ∧ i = .int .i64 n ∧ Hid (Below w.heap.size w wr)) (fun i _ => L.length - (intOf i).toNat)
    case atStart => exact ⟨0, by omega, rfl, HB0⟩
    case round =>
      obtain ⟨n, hn, rfl, HB⟩ := hrel
      obtain ⟨wo, rfl⟩ : ∃ wo : World, wo = wr := ⟨_, rfl⟩
      by_cases hlt : n < L.length
      · obtain ⟨⟨k, u, i⟩, hx⟩ : ∃ x, L[n]? = some x := ⟨_, List.getElem?_eq_getElem hlt⟩
        have HX := Lib.hid hx
        have heq := neqAct k u i k u i true (by simp)
        have i0 : (0 : Int) ≤ (n : Int) := by omega
        have i1 : (n : Int) < (L.length : Int) := by omega
        clear hx
        have tok1 : True := trivial
        go_wp2_with (first
          | (go_at_call 14; have _t := tok1; refine (HI.out n hlt (k, u, i) HX.out _ (HR.out.later HB.out)).mono ?_; rintro e w2 ⟨rfl, hb⟩; have H2 := Lib.hid (HB.out.trans (hb.mono HB.out.size)); clear hb tok1)
          | (go_at_call 14; refine (HJ.out n hlt (k, u, i) HX.out _ (HR.out.later (H2.out.alloc H2.out.size (.cells #[.int .i64 k, .int .i64 u, .int .i64 i] 35)))).mono ?_; rintro e w3 ⟨rfl, hb⟩; have H3 := Lib.hid (And.intro ((H2.out.alloc H2.out.size (.cells #[.int .i64 k, .int .i64 u, .int .i64 i] 35)).trans (hb.mono (by have := H2.out.size; simp; omega))) hb); clear hb;
             have hw2 : w2.heap.size < w3.heap.size := (by have := H3.out.2.size; simp at this; omega);
             have y0 : w3.cell? ⟨w2.heap.size, 0, none⟩ = some (.int .i64 k) := old_cell (by simp) H3.out.2;
             have y1 : w3.cell? ⟨w2.heap.size, 1, none⟩ = some (.int .i64 u) := old_cell (by simp) H3.out.2;
             have y2 : w3.cell? ⟨w2.heap.size, 2, none⟩ = some (.int .i64 i) := old_cell (by simp) H3.out.2;
             obtain ⟨x0, x1, x2⟩ := act_cells ((HR.out.later H3.out.1).later (al1 w3 (.cells #[.int .i64 k, .int .i64 u, .int .i64 i] 35))) HX.out; have hbl := block_of_cell x0))
        go_quiet (fail)
        go_wp2
        go_roundw
        case rel => exact ⟨n + 1, by omega, by go_num, Lib.hid (al_drew H3.out.1 (.cells #[.int .i64 k, .int .i64 u, .int .i64 i] 35) nq)⟩
        case measure => simp [intOf]; omega
      · obtain rfl : n = L.length := by omega
        go_wp2_with (go_at_call 9; refine (awake_any _).mono ?_; rintro e w4 ⟨rfl, hb⟩; have H4 := Lib.hid (HB.out.trans (hb.mono HB.out.size)); clear hb)
        go_ret
        exact ⟨rfl, H4.out⟩
end Go.Proofs.Ytpfcghigfkhimaa
