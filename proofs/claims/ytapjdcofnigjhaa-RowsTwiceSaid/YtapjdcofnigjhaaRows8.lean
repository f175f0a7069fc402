/- The walk of RowsChange. -/
import Derived.Test.YtapjdcofnigjhaaRows7
namespace Go.Proofs.Ytapjdcofnigjhaa
open Go.RowKit

/-- A turn that lies. -/
structure TurnAt (w : World) (b : Nat) (f : Nat → Int) (had : Bool) (g : Nat → Int) (has : Bool) : Prop where
  old : RowAt w b 0 f
  now : RowAt w b 5 g
  had : w.cell? ⟨b, 4, none⟩ = some (.bool had)
  has : w.cell? ⟨b, 9, none⟩ = some (.bool has)
theorem TurnAt.later {w w' : World} {b : Nat} {f g : Nat → Int} {had has : Bool} (h : TurnAt w b f had g has) (hb : Below w.heap.size w w') : TurnAt w' b f had g has :=
  ⟨h.old.later hb, h.now.later hb, old_cell h.had hb, old_cell h.has hb⟩
abbrev turnV (a0 a1 a2 a3 : Int) (had : Bool) (b0 b1 b2 b3 : Int) (has : Bool) : Value := .agg #[.int .i64 a0, .int .i64 a1, .int .i64 a2, .int .i64 a3, .bool had, .int .i64 b0, .int .i64 b1, .int .i64 b2, .int .i64 b3, .bool has]
abbrev turnO (a0 a1 a2 a3 : Int) (had : Bool) (b0 b1 b2 b3 : Int) (has : Bool) : Obj := .cells #[.int .i64 a0, .int .i64 a1, .int .i64 a2, .int .i64 a3, .bool had, .int .i64 b0, .int .i64 b1, .int .i64 b2, .int .i64 b3, .bool has] 30
theorem TurnAt.made (w : World) (a0 a1 a2 a3 : Int) (had : Bool) (b0 b1 b2 b3 : Int) (has : Bool) : TurnAt (w.alloc (turnO a0 a1 a2 a3 had b0 b1 b2 b3 has)) w.heap.size (rowF a0 a1 a2 a3) had (rowF b0 b1 b2 b3) has := by
  refine ⟨?_, ?_, by simp, by simp⟩
  · intro i hi
    match i, hi with
    | 0, _ => simp [rowF]
    | 1, _ => simp [rowF]
    | 2, _ => simp [rowF]
    | 3, _ => simp [rowF]
  · intro i hi
    match i, hi with
    | 0, _ => simp [rowF]
    | 1, _ => simp [rowF]
    | 2, _ => simp [rowF]
    | 3, _ => simp [rowF]
theorem turn_cells {w : World} {b : Nat} {a0 a1 a2 a3 : Int} {had : Bool} {b0 b1 b2 b3 : Int} {has : Bool} (h : TurnAt w b (rowF a0 a1 a2 a3) had (rowF b0 b1 b2 b3) has) :
    w.cell? ⟨b, 0, none⟩ = some (.int .i64 a0) ∧ w.cell? ⟨b, 1, none⟩ = some (.int .i64 a1) ∧ w.cell? ⟨b, 2, none⟩ = some (.int .i64 a2) ∧ w.cell? ⟨b, 3, none⟩ = some (.int .i64 a3) ∧
    w.cell? ⟨b, 5, none⟩ = some (.int .i64 b0) ∧ w.cell? ⟨b, 5 + 1, none⟩ = some (.int .i64 b1) ∧ w.cell? ⟨b, 5 + 2, none⟩ = some (.int .i64 b2) ∧ w.cell? ⟨b, 5 + 3, none⟩ = some (.int .i64 b3) :=
  ⟨by simpa [rowF] using h.old 0 (by omega), by simpa [rowF] using h.old 1 (by omega), by simpa [rowF] using h.old 2 (by omega), by simpa [rowF] using h.old 3 (by omega),
   by simpa [rowF] using h.now 0 (by omega), by simpa [rowF] using h.now 1 (by omega), by simpa [rowF] using h.now 2 (by omega), by simpa [rowF] using h.now 3 (by omega)⟩

set_option maxHeartbeats 2000000 in
theorem rowsChange_walk (k : List UInt8) (a0 a1 a2 a3 : Int) (had : Bool) (b0 b1 b2 b3 : Int) (has : Bool) (w : World) :
    Calls Try.prog 4 #[.string ⟨k.toArray⟩, turnV a0 a1 a2 a3 had b0 b1 b2 b3 has] w (Yes w) := by
  have HA := Lib.hid (al1 w (turnO a0 a1 a2 a3 had b0 b1 b2 b3 has))
  by_cases h100 : 100 < k.length
  · go_enter Try.func4, Try.ntmps4
    go_wp2_with (go_at_call 18; refine (awake_any _).mono ?_; rintro e w4 ⟨rfl, hb⟩; have H4 := Lib.hid (HA.out.trans (hb.mono HA.out.size)); clear hb)
    go_ret
    exact ⟨rfl, H4.out⟩
  have HT := Lib.hid (TurnAt.made w a0 a1 a2 a3 had b0 b1 b2 b3 has)
  have HPt := Lib.hid pointer_any
  by_cases ok : okKey k = true
  · have HC := Lib.hid (fun (W : World) (h1 : RowAt W w.heap.size 0 (rowF a0 a1 a2 a3)) (h2 : RowAt W w.heap.size 5 (rowF b0 b1 b2 b3)) => changes_good k ok (optP had w.heap.size 0) (optP has w.heap.size 5) (optF had (rowF a0 a1 a2 a3)) (optF has (rowF b0 b1 b2 b3)) W (PtrAt.opt had h1) (PtrAt.opt has h2))
    have HR := Lib.hid (refCh_any a0 a1 a2 a3 had b0 b1 b2 b3 has)
    have hlen := chgs_len 4 (optF had (rowF a0 a1 a2 a3)) (optF has (rowF b0 b1 b2 b3))
    have hk1 : 1 ≤ k.length := by unfold okKey at ok; simp at ok; omega
    have hk2 : k.length ≤ 16 := by unfold okKey at ok; simp at ok; omega
    unfold GivesC at HC
    unfold GivesR at HR
    clear ok
    generalize chgs 4 (optF had (rowF a0 a1 a2 a3)) (optF has (rowF b0 b1 b2 b3)) = L at *
    go_enter Try.func4, Try.ntmps4
    go_wp2
    generalize w.alloc (turnO a0 a1 a2 a3 had b0 b1 b2 b3 has) = W at *
    go_region_held3 (fun W => W.cell? ⟨w.heap.size, 4, none⟩ = some (.bool had) ∧ W.cell? ⟨w.heap.size, 9, none⟩ = some (.bool has))
      (first | exact ⟨HT.out.had, HT.out.has⟩ | exact ⟨(HT.out.later H1.out.low).had, (HT.out.later H1.out.low).has⟩)
      (first
        | (go_at_call 20; refine (HPt.out _ _ _ _).mono ?_; rintro e w1 ⟨rfl, rfl⟩)
        | (go_at_call 19; refine (HC.out _ (HT.out.later (Below.refl W.heap.size W).drew).old (HT.out.later (Below.refl W.heap.size W).drew).now).mono ?_; rintro e w1 ⟨a1', c1', rfl, h1⟩; have H1 : Hid (Loc 4 W w1 a1' L.length c1' (chgV k L)) := Lib.hid (h1.since (Below.refl W.heap.size W).drew); clear h1))
    obtain ⟨z0, z1, z2, z3, y0, y1, y2, y3⟩ := turn_cells (HT.out.later H1.out.low)
    have zh := (HT.out.later H1.out.low).had
    have zs := (HT.out.later H1.out.low).has
    go_wp2_with (go_at_call 21; refine (HR.out _).mono ?_; rintro e w2 ⟨a2', c2', rfl, hrd, hb⟩; have H2 := Lib.hid (And.intro (H1.out.rd.later hb) (And.intro hrd (H1.out.low.trans (hb.mono H1.out.low.size)))); clear hrd hb z0 z1 z2 z3 y0 y1 y2 y3 zh zs)
    have hgd := guardChg
    go_loopw [8] (fun i wr => ∃ (n : Nat), n ≤ L.length ∧ i = .int .i64 n ∧ Hid (Below w2.heap.size w2 wr)) (fun i _ => L.length - (intOf i).toNat)
    case atStart => exact ⟨0, by omega, rfl, Lib.hid (Below.refl _ _)⟩
    case round =>
      obtain ⟨n, hn, rfl, HB⟩ := hrel
      by_cases hlt : n < L.length
      · obtain ⟨⟨i, v, b⟩, hx⟩ : ∃ x, L[n]? = some x := ⟨_, List.getElem?_eq_getElem hlt⟩
        obtain ⟨p1, q1, rfl, x0, x1, x2, x3⟩ := chg_at (H2.out.1.later HB.out) hx
        obtain ⟨p2, q2, rfl, y0, y1, y2⟩ := rch_at (H2.out.2.1.later HB.out) hx
        have heq := neqChg (i : Int) v k b (i : Int) v k b true (by simp)
        have i0 : (0 : Int) ≤ (n : Int) := by omega
        have i1 : (n : Int) < (L.length : Int) := by omega
        clear hx
        go_wp2
        go_quiet (fail)
        go_wp2
        go_roundw
        case rel => exact ⟨n + 1, by omega, by go_num, Lib.hid (HB.out.trans ⟨rfl, rfl, rfl, Nat.le_refl _, fun _ _ => rfl⟩)⟩
        case measure => simp [intOf]; omega
      · obtain rfl : n = L.length := by omega
        go_wp2_with (go_at_call 18; refine (awake_any _).mono ?_; rintro e w4 ⟨rfl, hb⟩; have H4 := Lib.hid (HB.out.trans (hb.mono HB.out.size)); clear hb)
        go_ret
        have h5 := HA.out.trans (H2.out.2.2.mono HA.out.size)
        exact ⟨rfl, h5.trans (H4.out.mono h5.size)⟩
  · have HC := Lib.hid (fun v1 v2 w => changes_bad k (by simpa using ok) v1 v2 w)
    have hk : k.length < 1 ∨ 16 < k.length := by unfold okKey at ok; simp at ok; omega
    clear ok
    by_cases h1 : k.length < 1
    all_goals
      first
        | (have h2 : 16 < k.length := by omega
           clear hk)
        | clear hk
      go_enter Try.func4, Try.ntmps4
      go_wp2
      generalize w.alloc (turnO a0 a1 a2 a3 had b0 b1 b2 b3 has) = W at *
      go_region_held3 (fun W => W.cell? ⟨w.heap.size, 4, none⟩ = some (.bool had) ∧ W.cell? ⟨w.heap.size, 9, none⟩ = some (.bool has))
        (first | exact ⟨HT.out.had, HT.out.has⟩)
        (first
          | (go_at_call 20; refine (HPt.out _ _ _ _).mono ?_; rintro e w1 ⟨rfl, rfl⟩)
          | (go_at_call 19; refine (HC.out _ _ _).mono ?_; rintro e w1 ⟨rfl, rfl⟩))
      go_wp2_with (go_at_call 18; refine (awake_any _).mono ?_; rintro e w4 ⟨rfl, hb⟩; have H4 := Lib.hid ((Below.refl W.heap.size W).drew.trans hb); clear hb)
      go_ret
      exact ⟨rfl, HA.out.trans (H4.out.mono HA.out.size)⟩
end Go.Proofs.Ytapjdcofnigjhaa
