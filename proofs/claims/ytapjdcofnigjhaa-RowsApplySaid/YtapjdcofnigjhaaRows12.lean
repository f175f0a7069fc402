/- The walk of RowsApply. -/
import Derived.Test.YtapjdcofnigjhaaRows11
namespace Go.Proofs.Ytapjdcofnigjhaa
open Go.RowKit

set_option maxRecDepth 100000 in
set_option maxHeartbeats 4000000 in
theorem rowsApply_good (k : List UInt8) (ok : okKey k = true) (a0 a1 a2 a3 : Int) (had : Bool) (b0 b1 b2 b3 : Int) (has : Bool) (w : World) :
    Calls Try.prog 6 #[.string ⟨k.toArray⟩, turnV a0 a1 a2 a3 had b0 b1 b2 b3 has] w (Yes w) := by
  have HA := Lib.hid (al1 w (turnO a0 a1 a2 a3 had b0 b1 b2 b3 has))
  have hz1 : w.heap.size < (w.alloc (turnO a0 a1 a2 a3 had b0 b1 b2 b3 has)).heap.size := by simp
  have HT := Lib.hid (TurnAt.made w a0 a1 a2 a3 had b0 b1 b2 b3 has)
  have HPt := Lib.hid pointer_any
  have HC := Lib.hid (fun p q f g (W : World) h1 h2 => changes_good k ok p q f g W h1 h2)
  unfold GivesC at HC
  have hl8 := chgs_len 4 (optF had (rowF a0 a1 a2 a3)) (optF has (rowF b0 b1 b2 b3))
  have HF := Lib.hid (Idx.cols (had := had) (has := has) (f := rowF a0 a1 a2 a3) (g := rowF b0 b1 b2 b3) 4 (Nat.le_refl _))
  clear ok
  go_enter Try.func6, Try.ntmps6
  go_wp2
  generalize w.alloc (turnO a0 a1 a2 a3 had b0 b1 b2 b3 has) = W at *
  go_region_held3 (fun W => W.cell? ⟨w.heap.size, 4, none⟩ = some (.bool had) ∧ W.cell? ⟨w.heap.size, 9, none⟩ = some (.bool has))
    (first | exact ⟨HT.out.had, HT.out.has⟩ | exact ⟨(HT.out.later H1.out.2).had, (HT.out.later H1.out.2).has⟩)
    (first
      | (go_at_call 20; refine (HPt.out _ _ _ _).mono ?_; rintro e w1 ⟨rfl, rfl⟩)
      | (go_at_call 19; refine (HC.out (optP had w.heap.size 0) (optP has w.heap.size 5) (optF had (rowF a0 a1 a2 a3)) (optF has (rowF b0 b1 b2 b3)) _ (PtrAt.opt had (HT.out.later (Below.refl W.heap.size W).drew).old) (PtrAt.opt has (HT.out.later (Below.refl W.heap.size W).drew).now)).mono ?_; rintro e w1 ⟨a1', c1', rfl, h1⟩; have H1 := Lib.hid (And.intro h1.rd (h1.since (Below.refl W.heap.size W).drew).low); clear h1))
  generalize chgs 4 (optF had (rowF a0 a1 a2 a3)) (optF has (rowF b0 b1 b2 b3)) = L at *
  have hzw : w.heap.size < w1.heap.size := by have := H1.out.2.size; omega
  obtain ⟨z0, z1, z2, z3, _, _, _, _⟩ := turn_cells (HT.out.later H1.out.2)
  have zh := (HT.out.later H1.out.2).had
  have HI := Lib.hid (IdxAt.made w1 a0 a1 a2 a3 had 22 46)
  go_wp2
  refine wp_loop_rounds 5 ?_
  repeat any_goals (rw [rounds_succ]; go_wp2)
  have HB0 := Lib.hid ((al1 w1 (.cells #[.int .i64 a0, .int .i64 a1, .int .i64 a2, .int .i64 a3] 22)).trans ((al1 (w1.alloc (.cells #[.int .i64 a0, .int .i64 a1, .int .i64 a2, .int .i64 a3] 22)) (.cells #[.bool had, .bool had, .bool had, .bool had] 46)).mono (by simp)))
  generalize (w1.alloc (.cells #[.int .i64 a0, .int .i64 a1, .int .i64 a2, .int .i64 a3] 22)).alloc (.cells #[.bool had, .bool had, .bool had, .bool had] 46) = W2 at *
  clear z0 z1 z2 z3 zh
  go_loopw [10] (fun i wr => ∃ (n : Nat) (s : Idx), n ≤ L.length ∧ i = .int .i64 n ∧ Hid (IdxAt wr w1.heap.size (w1.heap.size + 1) s ∧ s.fits (L.drop n) ∧ s.all (L.drop n) = (Idx.mk (rowF a0 a1 a2 a3) fun _ => had).all L ∧ Below w1.heap.size w1 wr)) (fun i _ => L.length - (intOf i).toNat)
  case atStart => exact ⟨0, _, by omega, rfl, Lib.hid ⟨HI.out, HF.out.1, rfl, HB0.out⟩⟩
  case round =>
    obtain ⟨n, s, hn, rfl, HS⟩ := hrel
    by_cases hlt : n < L.length
    · obtain ⟨⟨i, v, b⟩, hx⟩ : ∃ x, L[n]? = some x := ⟨_, List.getElem?_eq_getElem hlt⟩
      have hd : L.drop n = (i, v, b) :: L.drop (n + 1) := by
        rw [List.drop_eq_getElem_cons hlt]
        rw [List.getElem?_eq_getElem hlt] at hx
        rw [Option.some.inj hx]
      have hfit := HS.out.2.1
      rw [hd] at hfit
      have hall := HS.out.2.2.1
      rw [hd] at hall
      obtain ⟨⟨hi4, hti, hvi⟩, hrest⟩ := hfit
      have HN := Lib.hid (And.intro hrest hall)
      obtain ⟨p1, q1, rfl, x0, x1, x2, x3⟩ := chg_at (H1.out.1.later (HS.out.2.2.2)) hx
      have tv := HS.out.1.v i hi4
      have tt := HS.out.1.t i hi4
      obtain ⟨v1, v2⟩ := tv
      obtain ⟨t1, t2⟩ := tt
      rw [hti] at t1
      have n0 : (0 : Int) ≤ (n : Int) := by omega
      have n1 : (n : Int) < (L.length : Int) := by omega
      have n2 : (0 : Int) ≤ (i : Int) := by omega
      have n3 : (i : Int) < 4 := by omega
      have n4 : (i : Int) ≤ 3 := by omega
      have hgE := guardEntry
      have d1 : decide ((i : Int) < 0) = false := decide_eq_false (by omega)
      have d2 : decide ((3 : Int) < (i : Int)) = false := decide_eq_false (by omega)
      have hp1 : p1 < w1.heap.size := by
        obtain ⟨b', o', e', y0, _⟩ := chg_at H1.out.1 hx
        simp only [Option.some.injEq, Addr.mk.injEq, and_true] at e'
        obtain ⟨rfl, rfl⟩ := e'
        exact block_of_cell y0
      dsimp only at hti hvi hi4
      clear hd hall hrest hti hx
      cases b
      case true =>
        clear hvi
        simp only [Bool.not_true] at t1
        dsimp only at x0 x1 x2 x3 v1 v2 t1 t2
        go_wp2
        go_quiet (fail)
        have x1b : ((wr.drewN nq).setCell ⟨w1.heap.size + 1, i, none⟩ (.bool true)).cell? ⟨p1, q1 + n * 4 + 1, none⟩ = some (.int .i64 v) := by
          rw [World.cell?_setCell_other _ _ _ _ (by intro e; cases e; omega)]; exact x1
        have v1b : ((wr.drewN nq).setCell ⟨w1.heap.size + 1, i, none⟩ (.bool true)).cell? ⟨w1.heap.size, i, none⟩ = some (.int .i64 (s.v i)) := by
          rw [World.cell?_setCell_other _ _ _ _ (by intro e; injection e; omega)]; exact v1
        go_wp2
        have HD := Lib.hid ((HS.out.1.same (w' := wr.drewN nq) (fun _ => rfl) (fun _ => rfl)).set (by omega) (i, v, true) hi4)
        have HBW := Lib.hid (((HS.out.2.2.2.trans (show Below w1.heap.size wr (wr.drewN nq) from ⟨rfl, rfl, rfl, Nat.le_refl _, fun _ _ => rfl⟩)).setCell (p := ⟨w1.heap.size + 1, i, none⟩) (by simp) (.bool true)).setCell (p := ⟨w1.heap.size, i, none⟩) (by simp) (.int .i64 v))
        go_roundw
        case rel => exact ⟨n + 1, s.upd (i, v, true), by omega, by go_num, Lib.hid ⟨HD.out, HN.out.1, HN.out.2, HBW.out⟩⟩
        case measure => simp [intOf]; omega
      case false =>
        have hv := hvi rfl
        have heq := neqEnt v k (s.v i) k true (by simp [hv])
        clear hvi hv
        simp only [Bool.not_false] at t1
        dsimp only at x0 x1 x2 x3 v1 v2 t1 t2
        go_wp2
        go_quiet (fail)
        have x1b : ((wr.drewN nq).setCell ⟨w1.heap.size + 1, i, none⟩ (.bool false)).cell? ⟨p1, q1 + n * 4 + 1, none⟩ = some (.int .i64 v) := by
          rw [World.cell?_setCell_other _ _ _ _ (by intro e; cases e; omega)]; exact x1
        have v1b : ((wr.drewN nq).setCell ⟨w1.heap.size + 1, i, none⟩ (.bool false)).cell? ⟨w1.heap.size, i, none⟩ = some (.int .i64 (s.v i)) := by
          rw [World.cell?_setCell_other _ _ _ _ (by intro e; injection e; omega)]; exact v1
        go_wp2
        have HD := Lib.hid ((HS.out.1.same (w' := wr.drewN nq) (fun _ => rfl) (fun _ => rfl)).set (by omega) (i, v, false) hi4)
        have HBW := Lib.hid (((HS.out.2.2.2.trans (show Below w1.heap.size wr (wr.drewN nq) from ⟨rfl, rfl, rfl, Nat.le_refl _, fun _ _ => rfl⟩)).setCell (p := ⟨w1.heap.size + 1, i, none⟩) (by simp) (.bool false)).setCell (p := ⟨w1.heap.size, i, none⟩) (by simp) (.int .i64 v))
        go_roundw
        case rel => exact ⟨n + 1, s.upd (i, v, false), by omega, by go_num, Lib.hid ⟨HD.out, HN.out.1, HN.out.2, HBW.out⟩⟩
        case measure => simp [intOf]; omega
    · obtain rfl : n = L.length := by omega
      have he := HS.out.2.2.1
      rw [List.drop_length] at he
      have hare := HF.out.2
      rw [← he] at hare
      have HE := Lib.hid hare
      clear he hare
      obtain ⟨wo, rfl⟩ : ∃ wo : World, wo = wr := ⟨_, rfl⟩
      go_wp2
      go_loopw [12] (fun i wr => ∃ (m : Nat), m ≤ 4 ∧ i = .int .i64 m ∧ Hid (Below wo.heap.size wo wr)) (fun i _ => 4 - (intOf i).toNat)
      case atStart => exact ⟨0, by omega, rfl, Lib.hid (Below.refl _ _)⟩
      case round =>
        obtain ⟨m, hm, rfl, HB⟩ := hrel
        by_cases hmt : m < 4
        · obtain ⟨t0, t1⟩ := HE.out.now m hmt
          have cv := old_cell (HS.out.1.v m hmt).1 HB.out
          have ct := old_cell (HS.out.1.t m hmt).1 HB.out
          have hlow := HA.out.trans (H1.out.2.mono HA.out.size)
          have hT := ((HT.out.later H1.out.2).later HS.out.2.2.2).later HB.out
          have cn := hT.now m hmt
          have ch := hT.has
          have HTV := Lib.hid t1
          rw [show Idx.all s [] = s from rfl] at t0 t1
          rw [t0] at ct
          have m0 : (0 : Int) ≤ (m : Int) := by omega
          have m1 : (m : Int) < 4 := by omega
          clear hT hlow t0
          cases has
          case true =>
            have hv := t1 rfl
            rw [hv] at cv
            clear t1 hv
            go_wp2
            go_quiet (fail)
            go_wp2
            go_roundw
            case rel => exact ⟨m + 1, by omega, by go_num, Lib.hid (HB.out.trans ⟨rfl, rfl, rfl, Nat.le_refl _, fun _ _ => rfl⟩)⟩
            case measure => simp [intOf]; omega
          case false =>
            clear t1
            go_wp2
            go_quiet (fail)
            go_wp2
            go_roundw
            case rel => exact ⟨m + 1, by omega, by go_num, Lib.hid (HB.out.trans ⟨rfl, rfl, rfl, Nat.le_refl _, fun _ _ => rfl⟩)⟩
            case measure => simp [intOf]; omega
        · obtain rfl : m = 4 := by omega
          go_wp2_with (go_at_call 18; refine (awake_any _).mono ?_; rintro e w4 ⟨rfl, hb⟩; have H4 := Lib.hid (HB.out.trans (hb.mono HB.out.size)); clear hb)
          go_ret
          have h1 := HA.out.trans (H1.out.2.mono HA.out.size)
          have h2 := h1.trans (HS.out.2.2.2.mono h1.size)
          exact ⟨rfl, h2.trans (H4.out.mono h2.size)⟩
end Go.Proofs.Ytapjdcofnigjhaa
