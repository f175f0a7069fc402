/- The walk of RowsTwice. -/
import Derived.Test.YtapjdcofnigjhaaRows8
namespace Go.Proofs.Ytapjdcofnigjhaa
open Go.RowKit

theorem keepB_symm (i : Nat) (f g : Option (Nat → Int)) : keepB i f g = keepB i g f := by
  cases f <;> cases g <;> first | rfl | exact BEq.comm
theorem keepB_self (i : Nat) (f : Nat → Int) : keepB i (some f) (some f) = true := by simp [keepB]
theorem mem_chgCol {i j : Nat} {v : Int} {b : Bool} {f g : Option (Nat → Int)} : (j, v, b) ∈ chgCol i f g ↔ j = i ∧ ((b = false ∧ ∃ h, f = some h ∧ v = h i) ∨ (b = true ∧ ∃ h, g = some h ∧ v = h i)) := by
  unfold chgCol
  cases f <;> cases g <;> simp <;> cases b <;> simp
theorem mem_chgAt {i j : Nat} {v : Int} {b : Bool} {f g : Option (Nat → Int)} : (j, v, b) ∈ chgAt i f g ↔ keepB i f g = false ∧ (j, v, b) ∈ chgCol i f g := by
  unfold chgAt
  by_cases h : keepB i f g = true <;> simp [h]
theorem mem_chgs {k j : Nat} {v : Int} {b : Bool} {f g : Option (Nat → Int)} : (j, v, b) ∈ chgs k f g ↔ j < k ∧ (j, v, b) ∈ chgAt j f g := by
  unfold chgs
  simp only [List.mem_flatMap, List.mem_range]
  constructor
  · rintro ⟨i, hi, h⟩
    have : j = i := (mem_chgCol.1 (mem_chgAt.1 h).2).1
    subst this
    exact ⟨hi, h⟩
  · rintro ⟨hi, h⟩
    exact ⟨j, hi, h⟩
theorem chgs_turn {k j : Nat} {v : Int} {b : Bool} {f g : Option (Nat → Int)} (h : (j, v, b) ∈ chgs k f g) : (j, v, !b) ∈ chgs k g f := by
  rw [mem_chgs, mem_chgAt, mem_chgCol] at h ⊢
  obtain ⟨h1, h2, _, h3⟩ := h
  refine ⟨h1, by rw [keepB_symm]; exact h2, rfl, ?_⟩
  rcases h3 with ⟨rfl, h3⟩ | ⟨rfl, h3⟩
  · exact .inr ⟨rfl, h3⟩
  · exact .inl ⟨rfl, h3⟩
theorem chgAt_len2 (i : Nat) (f g : Option (Nat → Int)) : (chgAt i f g).length = (chgAt i g f).length := by
  unfold chgAt
  rw [keepB_symm i g f]
  split
  · rfl
  · unfold chgCol
    cases f <;> cases g <;> simp
theorem chgs_len2 (k : Nat) (f g : Option (Nat → Int)) : (chgs k f g).length = (chgs k g f).length := by
  induction k with
  | zero => rfl
  | succ k ih => rw [chgs_succ, chgs_succ, List.length_append, List.length_append, ih, chgAt_len2]
theorem chgs_self (k : Nat) (f : Option (Nat → Int)) : chgs k f f = [] := by
  unfold chgs
  rw [List.flatMap_eq_nil_iff]
  intro i _
  cases f with
  | none => rfl
  | some f => exact chgAt_yes (keepB_self i f)
/-- Is one of these the other way round? -/
def turnB (x : Chg) (L : List Chg) : Bool := L.any fun y => y.1 == x.1 && y.2.1 == x.2.1 && y.2.2 != x.2.2
theorem turnB_snoc (x : Chg) (L : List Chg) (y : Chg) : turnB x (L ++ [y]) = (turnB x L || (y.1 == x.1 && y.2.1 == x.2.1 && y.2.2 != x.2.2)) := by
  simp [turnB]
theorem turnB_of {x : Chg} {L : List Chg} (h : (x.1, x.2.1, !x.2.2) ∈ L) : turnB x L = true := by
  unfold turnB
  rw [List.any_eq_true]
  exact ⟨_, h, by cases x.2.2 <;> simp⟩
/-- Which row's a value is. -/
theorem optF_some {is : Bool} {f h : Nat → Int} (e : optF is f = some h) : is = true ∧ h = f := by
  cases is
  · simp [optF] at e
  · simp [optF] at e
    exact ⟨rfl, e.symm⟩
theorem chgs_value {i : Nat} {v : Int} {b : Bool} {had has : Bool} {f g : Nat → Int} (h : (i, v, b) ∈ chgs 4 (optF had f) (optF has g)) : i < 4 ∧ ((b = false ∧ had = true ∧ v = f i) ∨ (b = true ∧ has = true ∧ v = g i)) := by
  rw [mem_chgs, mem_chgAt, mem_chgCol] at h
  obtain ⟨h1, _, _, h3⟩ := h
  refine ⟨h1, ?_⟩
  rcases h3 with ⟨rfl, z, hz, rfl⟩ | ⟨rfl, z, hz, rfl⟩
  · obtain ⟨e1, rfl⟩ := optF_some hz
    exact .inl ⟨rfl, e1, rfl⟩
  · obtain ⟨e1, rfl⟩ := optF_some hz
    exact .inr ⟨rfl, e1, rfl⟩

theorem str_neq (t : TypeId) (a b : List UInt8) : binOp .neq t (.string ⟨a.toArray⟩) (.string ⟨b.toArray⟩) = pure (.bool (!(a == b))) := by
  simp [binOp, Op.stringOp, list_of]

set_option maxRecDepth 100000 in
set_option maxHeartbeats 4000000 in
theorem rowsTwice_f (k : List UInt8) (ok : okKey k = true) (a0 a1 a2 a3 : Int) (b0 b1 b2 b3 : Int) (has : Bool) (w : World) :
    Calls Try.prog 5 #[.string ⟨k.toArray⟩, turnV a0 a1 a2 a3 false b0 b1 b2 b3 has] w (Yes w) := by
  have HA := Lib.hid (al1 w (turnO a0 a1 a2 a3 false b0 b1 b2 b3 has))
  have HT := Lib.hid (TurnAt.made w a0 a1 a2 a3 false b0 b1 b2 b3 has)
  have HPt := Lib.hid pointer_any
  have HC := Lib.hid (fun p q f g (W : World) h1 h2 => changes_good k ok p q f g W h1 h2)
  unfold GivesC at HC
  have hl := chgs_len2 4 (optF false (rowF a0 a1 a2 a3)) (optF has (rowF b0 b1 b2 b3))
  have hl8 := chgs_len 4 (optF false (rowF a0 a1 a2 a3)) (optF has (rowF b0 b1 b2 b3))
  have HV := Lib.hid (fun i v b => @chgs_value i v b false has (rowF a0 a1 a2 a3) (rowF b0 b1 b2 b3))
  have HU := Lib.hid (fun i v b => @chgs_turn 4 i v b (optF false (rowF a0 a1 a2 a3)) (optF has (rowF b0 b1 b2 b3)))
  have HS := Lib.hid (chgs_self 4 (optF false (rowF a0 a1 a2 a3)))
  clear ok
  go_enter Try.func5, Try.ntmps5
  go_wp2
  generalize w.alloc (turnO a0 a1 a2 a3 false b0 b1 b2 b3 has) = W at *
  go_region_held3 (fun W => W.cell? ⟨w.heap.size, 4, none⟩ = some (.bool false) ∧ W.cell? ⟨w.heap.size, 9, none⟩ = some (.bool has))
    (first | exact ⟨HT.out.had, HT.out.has⟩ | exact ⟨(HT.out.later H1.out.2).had, (HT.out.later H1.out.2).has⟩)
    (first
      | (go_at_call 20; refine (HPt.out _ _ _ _).mono ?_; rintro e w1 ⟨rfl, rfl⟩)
      | (go_at_call 19; refine (HC.out (optP false w.heap.size 0) (optP has w.heap.size 5) (optF false (rowF a0 a1 a2 a3)) (optF has (rowF b0 b1 b2 b3)) _ (PtrAt.opt false (HT.out.later (Below.refl W.heap.size W).drew).old) (PtrAt.opt has (HT.out.later (Below.refl W.heap.size W).drew).now)).mono ?_; rintro e w1 ⟨a1', c1', rfl, h1⟩; have H1 := Lib.hid (And.intro h1.rd (h1.since (Below.refl W.heap.size W).drew).low); clear h1))
  go_wp2
  go_region_held3 (fun W => W.cell? ⟨w.heap.size, 4, none⟩ = some (.bool false) ∧ W.cell? ⟨w.heap.size, 9, none⟩ = some (.bool has))
    (first | exact ⟨(HT.out.later H1.out.2).had, (HT.out.later H1.out.2).has⟩ | exact ⟨(HT.out.later H2.out.2.2).had, (HT.out.later H2.out.2.2).has⟩)
    (first
      | (go_at_call 20; refine (HPt.out _ _ _ _).mono ?_; rintro e w2 ⟨rfl, rfl⟩)
      | (go_at_call 19; refine (HC.out (optP has w.heap.size 5) (optP false w.heap.size 0) (optF has (rowF b0 b1 b2 b3)) (optF false (rowF a0 a1 a2 a3)) _ (PtrAt.opt has (HT.out.later H1.out.2.drew).now) (PtrAt.opt false (HT.out.later H1.out.2.drew).old)).mono ?_; rintro e w2 ⟨a2', c2', rfl, h2⟩; have H2 := Lib.hid (And.intro (H1.out.1.later (h2.since (Below.refl w1.heap.size w1).drew).low) (And.intro h2.rd (H1.out.2.trans ((h2.since (Below.refl w1.heap.size w1).drew).low.mono H1.out.2.size)))); clear h2))
  go_wp2
  go_region_held3 (fun W => W.cell? ⟨w.heap.size, 4, none⟩ = some (.bool false) ∧ W.cell? ⟨w.heap.size, 9, none⟩ = some (.bool has))
    (first | exact ⟨(HT.out.later H2.out.2.2).had, (HT.out.later H2.out.2.2).has⟩ | exact ⟨(HT.out.later H3.out.2.2).had, (HT.out.later H3.out.2.2).has⟩)
    (first
      | (go_at_call 20; refine (HPt.out _ _ _ _).mono ?_; rintro e w3 ⟨rfl, rfl⟩)
      | (go_at_call 19; refine (HC.out (optP false w.heap.size 0) (optP false w.heap.size 0) (optF false (rowF a0 a1 a2 a3)) (optF false (rowF a0 a1 a2 a3)) _ (PtrAt.opt false (HT.out.later H2.out.2.2.drew).old) (PtrAt.opt false (HT.out.later H2.out.2.2.drew).old)).mono ?_; rintro e w3 ⟨a3', c3', rfl, h3⟩; have H3 := Lib.hid (And.intro (H2.out.1.later (h3.since (Below.refl w2.heap.size w2).drew).low) (And.intro (H2.out.2.1.later (h3.since (Below.refl w2.heap.size w2).drew).low) (H2.out.2.2.trans ((h3.since (Below.refl w2.heap.size w2).drew).low.mono H2.out.2.2.size)))); clear h3))
  simp only [HS.out, List.length_nil]
  clear HS
  generalize chgs 4 (optF false (rowF a0 a1 a2 a3)) (optF has (rowF b0 b1 b2 b3)) = L1 at *
  generalize chgs 4 (optF has (rowF b0 b1 b2 b3)) (optF false (rowF a0 a1 a2 a3)) = L2 at *
  have zh := (HT.out.later H3.out.2.2).had
  go_wp2
  have hl1 : L1.length ≤ L2.length := by omega
  have hl2 : L2.length ≤ L1.length := by omega
  clear hl zh
  go_loopw [11] (fun i wr => ∃ (n : Nat), n ≤ L1.length ∧ i = .int .i64 n ∧ Hid (Below w3.heap.size w3 wr)) (fun i _ => L1.length - (intOf i).toNat)
  case atStart => exact ⟨0, by omega, rfl, Lib.hid (Below.refl _ _)⟩
  case round =>
    obtain ⟨n, hn, rfl, HB⟩ := hrel
    obtain ⟨wo, rfl⟩ : ∃ wo : World, wo = wr := ⟨_, rfl⟩
    by_cases hlt : n < L1.length
    · obtain ⟨⟨i1, v1, d1⟩, hx⟩ : ∃ x, L1[n]? = some x := ⟨_, List.getElem?_eq_getElem hlt⟩
      have hv := HV.out i1 v1 d1 (List.mem_of_getElem? hx)
      have HM := Lib.hid (turnB_of (x := (i1, v1, d1)) (HU.out i1 v1 d1 (List.mem_of_getElem? hx)))
      obtain ⟨p1, q1, rfl, x0, x1, x2, x3⟩ := chg_at (H3.out.1.later HB.out) hx
      obtain ⟨hi4, hv2⟩ := hv
      have zo := ((HT.out.later H3.out.2.2).later HB.out).old i1 hi4
      have zn := ((HT.out.later H3.out.2.2).later HB.out).now i1 hi4
      have zs := ((HT.out.later H3.out.2.2).later HB.out).has
      have zh := ((HT.out.later H3.out.2.2).later HB.out).had
      rw [Nat.zero_add] at zo
      have hst := str_neq 9 k k
      rw [beq_self_eq_true] at hst
      have n0 : (0 : Int) ≤ (n : Int) := by omega
      have n1 : (n : Int) < (L1.length : Int) := by omega
      have n2 : (0 : Int) ≤ (i1 : Int) := by omega
      have n3 : (i1 : Int) < 4 := by omega
      have n4 : (i1 : Int) ≤ 3 := by omega
      have HX := Lib.hid (And.intro x0 (And.intro x1 (And.intro x2 x3)))
      have HZ := Lib.hid (And.intro zs zh)
      clear hx
      have hgE := guardEntry
      rcases hv2 with ⟨rfl, hh, rfl⟩ | ⟨rfl, hh, rfl⟩
      · cases hh
      · subst hh
        go_wp2
        clear x0 x1 x2 x3 zs zh zo zn hst
        go_loopw [13, 14] (fun t i wr2 => ∃ (m : Nat), m ≤ L2.length ∧ i = .int .i64 m ∧ t = .bool (turnB (i1, rowF b0 b1 b2 b3 i1, true) (L2.take m)) ∧ Hid (Below wo.heap.size wo wr2)) (fun _ i _ => L2.length - (intOf i).toNat)
        case atStart => exact ⟨0, by omega, rfl, rfl, Lib.hid (Below.refl _ _)⟩
        case round =>
          obtain ⟨m, hm, rfl, rfl, HB2⟩ := hrel
          by_cases hmt : m < L2.length
          · obtain ⟨⟨i2, v2, d2⟩, hy⟩ : ∃ x, L2[m]? = some x := ⟨_, List.getElem?_eq_getElem hmt⟩
            have HSN : Hid (turnB (i1, rowF b0 b1 b2 b3 i1, true) (L2.take (m + 1)) = (turnB (i1, rowF b0 b1 b2 b3 i1, true) (L2.take m) || (i2 == i1 && v2 == rowF b0 b1 b2 b3 i1 && d2 != true))) := Lib.hid (by rw [List.take_add_one, hy]; exact turnB_snoc _ _ _)
            obtain ⟨p2, q2, rfl, y0, y1, y2, y3⟩ := chg_at ((H3.out.2.1.later HB.out).later HB2.out) hy
            have x0 := old_cell HX.out.1 HB2.out
            have x1 := old_cell HX.out.2.1 HB2.out
            have x2 := old_cell HX.out.2.2.1 HB2.out
            have x3 := old_cell HX.out.2.2.2 HB2.out
            have m0 : (0 : Int) ≤ (m : Int) := by omega
            have m1 : (m : Int) < (L2.length : Int) := by omega
            clear hy
            generalize turnB (i1, rowF b0 b1 b2 b3 i1, true) (L2.take m) = T at *
            cases T
            case true =>
              go_wp2
              go_quiet (fail)
              go_wp2
              go_roundw
              case rel => exact ⟨m + 1, by omega, by go_num, by rw [HSN.out]; rfl, Lib.hid (HB2.out.trans ⟨rfl, rfl, rfl, Nat.le_refl _, fun _ _ => rfl⟩)⟩
              case measure => simp [intOf]; omega
            case false =>
              by_cases hi : i2 = i1
              · by_cases hvv : v2 = rowF b0 b1 b2 b3 i1
                · have hc : ((i2 : Int) == (i1 : Int)) = true := by rw [hi]; simp
                  have he := eqlEnt v2 k (rowF b0 b1 b2 b3 i1) k true (by rw [hvv]; simp)
                  have HIV := Lib.hid (And.intro hi hvv)
                  clear hi hvv
                  cases d2
                  all_goals
                    go_wp2
                    go_quiet (fail)
                    go_wp2
                    go_roundw
                    case rel => exact ⟨m + 1, by omega, by go_num, by rw [HSN.out, HIV.out.1, HIV.out.2]; simp, Lib.hid (HB2.out.trans ⟨rfl, rfl, rfl, Nat.le_refl _, fun _ _ => rfl⟩)⟩
                    case measure => simp [intOf]; omega
                · have hc : ((i2 : Int) == (i1 : Int)) = true := by rw [hi]; simp
                  have he := eqlEnt v2 k (rowF b0 b1 b2 b3 i1) k false (by simp [hvv])
                  have HIV := Lib.hid hvv
                  clear hi hvv
                  go_wp2
                  go_quiet (fail)
                  go_wp2
                  go_roundw
                  case rel => exact ⟨m + 1, by omega, by go_num, by rw [HSN.out]; simp [HIV.out], Lib.hid (HB2.out.trans ⟨rfl, rfl, rfl, Nat.le_refl _, fun _ _ => rfl⟩)⟩
                  case measure => simp [intOf]; omega
              · have hc : ((i2 : Int) == (i1 : Int)) = false := by
                  rw [beq_eq_false_iff_ne]; intro h; exact hi (by omega)
                have HIV := Lib.hid hi
                clear hi
                go_wp2
                go_quiet (fail)
                go_wp2
                go_roundw
                case rel => exact ⟨m + 1, by omega, by go_num, by rw [HSN.out]; simp [HIV.out], Lib.hid (HB2.out.trans ⟨rfl, rfl, rfl, Nat.le_refl _, fun _ _ => rfl⟩)⟩
                case measure => simp [intOf]; omega
          · obtain rfl : m = L2.length := by omega
            have x1 := old_cell HX.out.2.1 HB2.out
            have x3 := old_cell HX.out.2.2.2 HB2.out
            have zs := old_cell HZ.out.1 HB2.out
            have zh := old_cell HZ.out.2 HB2.out
            rw [List.take_length, HM.out]
            go_wp2
            go_roundw
            case rel => exact ⟨n + 1, by omega, by go_num, Lib.hid (HB.out.trans (HB2.out.mono HB.out.size))⟩
            case measure => simp [intOf]; omega
    · obtain rfl : n = L1.length := by omega
      go_wp2_with (go_at_call 18; refine (awake_any _).mono ?_; rintro e w4 ⟨rfl, hb⟩; have H4 := Lib.hid (HB.out.trans (hb.mono HB.out.size)); clear hb)
      go_ret
      have h5 := HA.out.trans (H3.out.2.2.mono HA.out.size)
      exact ⟨rfl, h5.trans (H4.out.mono h5.size)⟩

set_option maxRecDepth 100000 in
set_option maxHeartbeats 4000000 in
theorem rowsTwice_t (k : List UInt8) (ok : okKey k = true) (a0 a1 a2 a3 : Int) (b0 b1 b2 b3 : Int) (has : Bool) (w : World) :
    Calls Try.prog 5 #[.string ⟨k.toArray⟩, turnV a0 a1 a2 a3 true b0 b1 b2 b3 has] w (Yes w) := by
  have HA := Lib.hid (al1 w (turnO a0 a1 a2 a3 true b0 b1 b2 b3 has))
  have HT := Lib.hid (TurnAt.made w a0 a1 a2 a3 true b0 b1 b2 b3 has)
  have HPt := Lib.hid pointer_any
  have HC := Lib.hid (fun p q f g (W : World) h1 h2 => changes_good k ok p q f g W h1 h2)
  unfold GivesC at HC
  have hl := chgs_len2 4 (optF true (rowF a0 a1 a2 a3)) (optF has (rowF b0 b1 b2 b3))
  have hl8 := chgs_len 4 (optF true (rowF a0 a1 a2 a3)) (optF has (rowF b0 b1 b2 b3))
  have HV := Lib.hid (fun i v b => @chgs_value i v b true has (rowF a0 a1 a2 a3) (rowF b0 b1 b2 b3))
  have HU := Lib.hid (fun i v b => @chgs_turn 4 i v b (optF true (rowF a0 a1 a2 a3)) (optF has (rowF b0 b1 b2 b3)))
  have HS := Lib.hid (chgs_self 4 (optF true (rowF a0 a1 a2 a3)))
  clear ok
  go_enter Try.func5, Try.ntmps5
  go_wp2
  generalize w.alloc (turnO a0 a1 a2 a3 true b0 b1 b2 b3 has) = W at *
  go_region_held3 (fun W => W.cell? ⟨w.heap.size, 4, none⟩ = some (.bool true) ∧ W.cell? ⟨w.heap.size, 9, none⟩ = some (.bool has))
    (first | exact ⟨HT.out.had, HT.out.has⟩ | exact ⟨(HT.out.later H1.out.2).had, (HT.out.later H1.out.2).has⟩)
    (first
      | (go_at_call 20; refine (HPt.out _ _ _ _).mono ?_; rintro e w1 ⟨rfl, rfl⟩)
      | (go_at_call 19; refine (HC.out (optP true w.heap.size 0) (optP has w.heap.size 5) (optF true (rowF a0 a1 a2 a3)) (optF has (rowF b0 b1 b2 b3)) _ (PtrAt.opt true (HT.out.later (Below.refl W.heap.size W).drew).old) (PtrAt.opt has (HT.out.later (Below.refl W.heap.size W).drew).now)).mono ?_; rintro e w1 ⟨a1', c1', rfl, h1⟩; have H1 := Lib.hid (And.intro h1.rd (h1.since (Below.refl W.heap.size W).drew).low); clear h1))
  go_wp2
  go_region_held3 (fun W => W.cell? ⟨w.heap.size, 4, none⟩ = some (.bool true) ∧ W.cell? ⟨w.heap.size, 9, none⟩ = some (.bool has))
    (first | exact ⟨(HT.out.later H1.out.2).had, (HT.out.later H1.out.2).has⟩ | exact ⟨(HT.out.later H2.out.2.2).had, (HT.out.later H2.out.2.2).has⟩)
    (first
      | (go_at_call 20; refine (HPt.out _ _ _ _).mono ?_; rintro e w2 ⟨rfl, rfl⟩)
      | (go_at_call 19; refine (HC.out (optP has w.heap.size 5) (optP true w.heap.size 0) (optF has (rowF b0 b1 b2 b3)) (optF true (rowF a0 a1 a2 a3)) _ (PtrAt.opt has (HT.out.later H1.out.2.drew).now) (PtrAt.opt true (HT.out.later H1.out.2.drew).old)).mono ?_; rintro e w2 ⟨a2', c2', rfl, h2⟩; have H2 := Lib.hid (And.intro (H1.out.1.later (h2.since (Below.refl w1.heap.size w1).drew).low) (And.intro h2.rd (H1.out.2.trans ((h2.since (Below.refl w1.heap.size w1).drew).low.mono H1.out.2.size)))); clear h2))
  go_wp2
  go_region_held3 (fun W => W.cell? ⟨w.heap.size, 4, none⟩ = some (.bool true) ∧ W.cell? ⟨w.heap.size, 9, none⟩ = some (.bool has))
    (first | exact ⟨(HT.out.later H2.out.2.2).had, (HT.out.later H2.out.2.2).has⟩ | exact ⟨(HT.out.later H3.out.2.2).had, (HT.out.later H3.out.2.2).has⟩)
    (first
      | (go_at_call 20; refine (HPt.out _ _ _ _).mono ?_; rintro e w3 ⟨rfl, rfl⟩)
      | (go_at_call 19; refine (HC.out (optP true w.heap.size 0) (optP true w.heap.size 0) (optF true (rowF a0 a1 a2 a3)) (optF true (rowF a0 a1 a2 a3)) _ (PtrAt.opt true (HT.out.later H2.out.2.2.drew).old) (PtrAt.opt true (HT.out.later H2.out.2.2.drew).old)).mono ?_; rintro e w3 ⟨a3', c3', rfl, h3⟩; have H3 := Lib.hid (And.intro (H2.out.1.later (h3.since (Below.refl w2.heap.size w2).drew).low) (And.intro (H2.out.2.1.later (h3.since (Below.refl w2.heap.size w2).drew).low) (H2.out.2.2.trans ((h3.since (Below.refl w2.heap.size w2).drew).low.mono H2.out.2.2.size)))); clear h3))
  simp only [HS.out, List.length_nil]
  clear HS
  generalize chgs 4 (optF true (rowF a0 a1 a2 a3)) (optF has (rowF b0 b1 b2 b3)) = L1 at *
  generalize chgs 4 (optF has (rowF b0 b1 b2 b3)) (optF true (rowF a0 a1 a2 a3)) = L2 at *
  have zh := (HT.out.later H3.out.2.2).had
  go_wp2
  have hl1 : L1.length ≤ L2.length := by omega
  have hl2 : L2.length ≤ L1.length := by omega
  clear hl zh
  go_loopw [11] (fun i wr => ∃ (n : Nat), n ≤ L1.length ∧ i = .int .i64 n ∧ Hid (Below w3.heap.size w3 wr)) (fun i _ => L1.length - (intOf i).toNat)
  case atStart => exact ⟨0, by omega, rfl, Lib.hid (Below.refl _ _)⟩
  case round =>
    obtain ⟨n, hn, rfl, HB⟩ := hrel
    obtain ⟨wo, rfl⟩ : ∃ wo : World, wo = wr := ⟨_, rfl⟩
    by_cases hlt : n < L1.length
    · obtain ⟨⟨i1, v1, d1⟩, hx⟩ : ∃ x, L1[n]? = some x := ⟨_, List.getElem?_eq_getElem hlt⟩
      have hv := HV.out i1 v1 d1 (List.mem_of_getElem? hx)
      have HM := Lib.hid (turnB_of (x := (i1, v1, d1)) (HU.out i1 v1 d1 (List.mem_of_getElem? hx)))
      obtain ⟨p1, q1, rfl, x0, x1, x2, x3⟩ := chg_at (H3.out.1.later HB.out) hx
      obtain ⟨hi4, hv2⟩ := hv
      have zo := ((HT.out.later H3.out.2.2).later HB.out).old i1 hi4
      have zn := ((HT.out.later H3.out.2.2).later HB.out).now i1 hi4
      have zs := ((HT.out.later H3.out.2.2).later HB.out).has
      have zh := ((HT.out.later H3.out.2.2).later HB.out).had
      rw [Nat.zero_add] at zo
      have hst := str_neq 9 k k
      rw [beq_self_eq_true] at hst
      have n0 : (0 : Int) ≤ (n : Int) := by omega
      have n1 : (n : Int) < (L1.length : Int) := by omega
      have n2 : (0 : Int) ≤ (i1 : Int) := by omega
      have n3 : (i1 : Int) < 4 := by omega
      have n4 : (i1 : Int) ≤ 3 := by omega
      have HX := Lib.hid (And.intro x0 (And.intro x1 (And.intro x2 x3)))
      have HZ := Lib.hid (And.intro zs zh)
      clear hx
      have hgE := guardEntry
      rcases hv2 with ⟨rfl, hh, rfl⟩ | ⟨rfl, hh, rfl⟩
      · clear hh
        go_wp2
        clear x0 x1 x2 x3 zs zh zo zn hst
        go_loopw [13, 14] (fun t i wr2 => ∃ (m : Nat), m ≤ L2.length ∧ i = .int .i64 m ∧ t = .bool (turnB (i1, rowF a0 a1 a2 a3 i1, false) (L2.take m)) ∧ Hid (Below wo.heap.size wo wr2)) (fun _ i _ => L2.length - (intOf i).toNat)
        case atStart => exact ⟨0, by omega, rfl, rfl, Lib.hid (Below.refl _ _)⟩
        case round =>
          obtain ⟨m, hm, rfl, rfl, HB2⟩ := hrel
          by_cases hmt : m < L2.length
          · obtain ⟨⟨i2, v2, d2⟩, hy⟩ : ∃ x, L2[m]? = some x := ⟨_, List.getElem?_eq_getElem hmt⟩
            have HSN : Hid (turnB (i1, rowF a0 a1 a2 a3 i1, false) (L2.take (m + 1)) = (turnB (i1, rowF a0 a1 a2 a3 i1, false) (L2.take m) || (i2 == i1 && v2 == rowF a0 a1 a2 a3 i1 && d2 != false))) := Lib.hid (by rw [List.take_add_one, hy]; exact turnB_snoc _ _ _)
            obtain ⟨p2, q2, rfl, y0, y1, y2, y3⟩ := chg_at ((H3.out.2.1.later HB.out).later HB2.out) hy
            have x0 := old_cell HX.out.1 HB2.out
            have x1 := old_cell HX.out.2.1 HB2.out
            have x2 := old_cell HX.out.2.2.1 HB2.out
            have x3 := old_cell HX.out.2.2.2 HB2.out
            have m0 : (0 : Int) ≤ (m : Int) := by omega
            have m1 : (m : Int) < (L2.length : Int) := by omega
            clear hy
            generalize turnB (i1, rowF a0 a1 a2 a3 i1, false) (L2.take m) = T at *
            cases T
            case true =>
              go_wp2
              go_quiet (fail)
              go_wp2
              go_roundw
              case rel => exact ⟨m + 1, by omega, by go_num, by rw [HSN.out]; rfl, Lib.hid (HB2.out.trans ⟨rfl, rfl, rfl, Nat.le_refl _, fun _ _ => rfl⟩)⟩
              case measure => simp [intOf]; omega
            case false =>
              by_cases hi : i2 = i1
              · by_cases hvv : v2 = rowF a0 a1 a2 a3 i1
                · have hc : ((i2 : Int) == (i1 : Int)) = true := by rw [hi]; simp
                  have he := eqlEnt v2 k (rowF a0 a1 a2 a3 i1) k true (by rw [hvv]; simp)
                  have HIV := Lib.hid (And.intro hi hvv)
                  clear hi hvv
                  cases d2
                  all_goals
                    go_wp2
                    go_quiet (fail)
                    go_wp2
                    go_roundw
                    case rel => exact ⟨m + 1, by omega, by go_num, by rw [HSN.out, HIV.out.1, HIV.out.2]; simp, Lib.hid (HB2.out.trans ⟨rfl, rfl, rfl, Nat.le_refl _, fun _ _ => rfl⟩)⟩
                    case measure => simp [intOf]; omega
                · have hc : ((i2 : Int) == (i1 : Int)) = true := by rw [hi]; simp
                  have he := eqlEnt v2 k (rowF a0 a1 a2 a3 i1) k false (by simp [hvv])
                  have HIV := Lib.hid hvv
                  clear hi hvv
                  go_wp2
                  go_quiet (fail)
                  go_wp2
                  go_roundw
                  case rel => exact ⟨m + 1, by omega, by go_num, by rw [HSN.out]; simp [HIV.out], Lib.hid (HB2.out.trans ⟨rfl, rfl, rfl, Nat.le_refl _, fun _ _ => rfl⟩)⟩
                  case measure => simp [intOf]; omega
              · have hc : ((i2 : Int) == (i1 : Int)) = false := by
                  rw [beq_eq_false_iff_ne]; intro h; exact hi (by omega)
                have HIV := Lib.hid hi
                clear hi
                go_wp2
                go_quiet (fail)
                go_wp2
                go_roundw
                case rel => exact ⟨m + 1, by omega, by go_num, by rw [HSN.out]; simp [HIV.out], Lib.hid (HB2.out.trans ⟨rfl, rfl, rfl, Nat.le_refl _, fun _ _ => rfl⟩)⟩
                case measure => simp [intOf]; omega
          · obtain rfl : m = L2.length := by omega
            have x1 := old_cell HX.out.2.1 HB2.out
            have x3 := old_cell HX.out.2.2.2 HB2.out
            have zs := old_cell HZ.out.1 HB2.out
            have zh := old_cell HZ.out.2 HB2.out
            rw [List.take_length, HM.out]
            go_wp2
            go_roundw
            case rel => exact ⟨n + 1, by omega, by go_num, Lib.hid (HB.out.trans (HB2.out.mono HB.out.size))⟩
            case measure => simp [intOf]; omega
      · subst hh
        go_wp2
        clear x0 x1 x2 x3 zs zh zo zn hst
        go_loopw [13, 14] (fun t i wr2 => ∃ (m : Nat), m ≤ L2.length ∧ i = .int .i64 m ∧ t = .bool (turnB (i1, rowF b0 b1 b2 b3 i1, true) (L2.take m)) ∧ Hid (Below wo.heap.size wo wr2)) (fun _ i _ => L2.length - (intOf i).toNat)
        case atStart => exact ⟨0, by omega, rfl, rfl, Lib.hid (Below.refl _ _)⟩
        case round =>
          obtain ⟨m, hm, rfl, rfl, HB2⟩ := hrel
          by_cases hmt : m < L2.length
          · obtain ⟨⟨i2, v2, d2⟩, hy⟩ : ∃ x, L2[m]? = some x := ⟨_, List.getElem?_eq_getElem hmt⟩
            have HSN : Hid (turnB (i1, rowF b0 b1 b2 b3 i1, true) (L2.take (m + 1)) = (turnB (i1, rowF b0 b1 b2 b3 i1, true) (L2.take m) || (i2 == i1 && v2 == rowF b0 b1 b2 b3 i1 && d2 != true))) := Lib.hid (by rw [List.take_add_one, hy]; exact turnB_snoc _ _ _)
            obtain ⟨p2, q2, rfl, y0, y1, y2, y3⟩ := chg_at ((H3.out.2.1.later HB.out).later HB2.out) hy
            have x0 := old_cell HX.out.1 HB2.out
            have x1 := old_cell HX.out.2.1 HB2.out
            have x2 := old_cell HX.out.2.2.1 HB2.out
            have x3 := old_cell HX.out.2.2.2 HB2.out
            have m0 : (0 : Int) ≤ (m : Int) := by omega
            have m1 : (m : Int) < (L2.length : Int) := by omega
            clear hy
            generalize turnB (i1, rowF b0 b1 b2 b3 i1, true) (L2.take m) = T at *
            cases T
            case true =>
              go_wp2
              go_quiet (fail)
              go_wp2
              go_roundw
              case rel => exact ⟨m + 1, by omega, by go_num, by rw [HSN.out]; rfl, Lib.hid (HB2.out.trans ⟨rfl, rfl, rfl, Nat.le_refl _, fun _ _ => rfl⟩)⟩
              case measure => simp [intOf]; omega
            case false =>
              by_cases hi : i2 = i1
              · by_cases hvv : v2 = rowF b0 b1 b2 b3 i1
                · have hc : ((i2 : Int) == (i1 : Int)) = true := by rw [hi]; simp
                  have he := eqlEnt v2 k (rowF b0 b1 b2 b3 i1) k true (by rw [hvv]; simp)
                  have HIV := Lib.hid (And.intro hi hvv)
                  clear hi hvv
                  cases d2
                  all_goals
                    go_wp2
                    go_quiet (fail)
                    go_wp2
                    go_roundw
                    case rel => exact ⟨m + 1, by omega, by go_num, by rw [HSN.out, HIV.out.1, HIV.out.2]; simp, Lib.hid (HB2.out.trans ⟨rfl, rfl, rfl, Nat.le_refl _, fun _ _ => rfl⟩)⟩
                    case measure => simp [intOf]; omega
                · have hc : ((i2 : Int) == (i1 : Int)) = true := by rw [hi]; simp
                  have he := eqlEnt v2 k (rowF b0 b1 b2 b3 i1) k false (by simp [hvv])
                  have HIV := Lib.hid hvv
                  clear hi hvv
                  go_wp2
                  go_quiet (fail)
                  go_wp2
                  go_roundw
                  case rel => exact ⟨m + 1, by omega, by go_num, by rw [HSN.out]; simp [HIV.out], Lib.hid (HB2.out.trans ⟨rfl, rfl, rfl, Nat.le_refl _, fun _ _ => rfl⟩)⟩
                  case measure => simp [intOf]; omega
              · have hc : ((i2 : Int) == (i1 : Int)) = false := by
                  rw [beq_eq_false_iff_ne]; intro h; exact hi (by omega)
                have HIV := Lib.hid hi
                clear hi
                go_wp2
                go_quiet (fail)
                go_wp2
                go_roundw
                case rel => exact ⟨m + 1, by omega, by go_num, by rw [HSN.out]; simp [HIV.out], Lib.hid (HB2.out.trans ⟨rfl, rfl, rfl, Nat.le_refl _, fun _ _ => rfl⟩)⟩
                case measure => simp [intOf]; omega
          · obtain rfl : m = L2.length := by omega
            have x1 := old_cell HX.out.2.1 HB2.out
            have x3 := old_cell HX.out.2.2.2 HB2.out
            have zs := old_cell HZ.out.1 HB2.out
            have zh := old_cell HZ.out.2 HB2.out
            rw [List.take_length, HM.out]
            go_wp2
            go_roundw
            case rel => exact ⟨n + 1, by omega, by go_num, Lib.hid (HB.out.trans (HB2.out.mono HB.out.size))⟩
            case measure => simp [intOf]; omega
    · obtain rfl : n = L1.length := by omega
      go_wp2_with (go_at_call 18; refine (awake_any _).mono ?_; rintro e w4 ⟨rfl, hb⟩; have H4 := Lib.hid (HB.out.trans (hb.mono HB.out.size)); clear hb)
      go_ret
      have h5 := HA.out.trans (H3.out.2.2.mono HA.out.size)
      exact ⟨rfl, h5.trans (H4.out.mono h5.size)⟩

end Go.Proofs.Ytapjdcofnigjhaa
