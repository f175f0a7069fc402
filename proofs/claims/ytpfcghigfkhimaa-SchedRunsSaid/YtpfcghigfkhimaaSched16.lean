/- The checker's list of acts. -/
import Derived.Test.YtpfcghigfkhimaaSched15
namespace Go.Proofs.Ytpfcghigfkhimaa
open Go.RowKit

theorem starts_step (il busy ready : List Int) (i : Nat) (x : Int) (hx : ready[i]? = some x) :
    startsL il busy (ready.take (i + 1)) = startsL il busy (ready.take i) ++ (if (busy.contains x || (ready.take i).contains x) = true then [] else startsOf il x) := by
  obtain ⟨s, h1, h2⟩ := startsL_append il busy (ready.take i) [x]
  rw [List.take_add_one, hx]
  show startsL il busy (ready.take i ++ [x]) = _
  rw [h1, startsL]
  have : (s.contains x) = (busy.contains x || (ready.take i).contains x) := by
    rw [Bool.eq_iff_iff, List.contains_iff_mem, h2, Bool.or_eq_true, List.contains_iff_mem, List.contains_iff_mem]
  rw [this]
  split
  · rw [startsL]
  · rw [startsL, List.append_nil]
theorem idle_step {st : List (Option Int)} {k : Nat} {x : Int} {p : Option Int} (h : st[k]? = some p) : startsOf (idleL st (k + 1)) x = startsOf (idleL st k) x ++ (if p = none then [(2, (k : Int), x)] else []) := by
  rw [idleL, look_of h]
  unfold startsOf
  rw [List.map_append]
  split <;> rfl
def finOf (k : Nat) : Option Int → List ActT
  | some d => [(3, (k : Int), d)]
  | none => []
theorem fin_step {st : List (Option Int)} {k : Nat} {p : Option Int} (h : st[k]? = some p) : finL st (k + 1) = finL st k ++ finOf k p := by
  rw [finL, look_of h]
  cases p <;> rfl
theorem loc_snoc {w0 w : World} {a : Option Addr} {c : Nat} {L : List ActT} {x : ActT} (h : Loc 3 w0 w a (L.length + 1) c (actsV (L ++ [x]))) : Loc 3 w0 w a (L ++ [x]).length c (actsV (L ++ [x])) := by
  rw [List.length_append]; exact h
theorem take_contains_succ {ready : List Int} {k : Nat} {y : Int} (h : ready[k]? = some y) (x : Int) (d : Bool) : (d || (ready.take (k + 1)).contains x) = ((d || (ready.take k).contains x) || decide (y = x)) := by
  rw [List.take_add_one, h, Bool.eq_iff_iff]
  simp only [Option.toList_some, Bool.or_eq_true, List.contains_iff_mem, List.mem_append, List.mem_singleton, decide_eq_true_eq]
  constructor
  · rintro (h | h | h)
    · exact .inl (.inl h)
    · exact .inl (.inr h)
    · exact .inr h.symm
  · rintro ((h | h) | h)
    · exact .inl h
    · exact .inr (.inl h)
    · exact .inr (.inr h.symm)
theorem Try.infoRAct : (Try.prog.info? 70).map (fun i => (i.zero, i.size, i.bytes)) = some (some (.agg #[.int .i64 0, .int .i64 0, .int .i64 0]), 3, 24) := by kernel_rfl
set_option maxRecDepth 100000 in
set_option maxHeartbeats 4000000 in
theorem refActs_any (b : Bool) (a : Option Addr) (c : Nat) (st : List (Option Int)) (ar : Option Addr) (cr : Nat) (ready : List Int) (hn : st.length ≤ 16) (hm : ready.length ≤ 1000) (w : World) (h : Rd w 2 a st.length c (wksV st)) (hr : Rd w 1 ar ready.length cr (intsV ready)) :
    Calls Try.prog 20 #[.slice a st.length c, .bool b, .slice ar ready.length cr] w fun e w' => ∃ a c, e = .returned (.slice a (actsL st st.length b ready).length c) ∧ Rd w' 3 a (actsL st st.length b ready).length c (actsV (actsL st st.length b ready)) ∧ Below w.heap.size w w' := by
  obtain ⟨i0, hi, hz0, hz1, hz2⟩ := info_parts Try.infoRAct
  have HR := Lib.hid (And.intro h hr)
  clear h hr
  obtain ⟨A0, hA0⟩ : ∃ A0 : List ActT, A0 = (if b then [(1, 0, 0)] else []) := ⟨_, rfl⟩
  have HFB : Hid (actsL st st.length b ready = A0 ++ startsL (idleL st st.length) (busyL st st.length) ready ++ finL st st.length) := Lib.hid (by rw [hA0]; rfl)
  have HA0 := Lib.hid hA0
  clear hA0
  have hil := idleL_len st st.length
  have hfl := (finL_len st st.length).1
  generalize actsL st st.length b ready = AL at *
  cases b
  all_goals
    go_enter Try.func20, Try.ntmps20
    first
      | (go_wp2_with (at_builtin; refine wpList_app_loc rfl (.tmp 14) (.tmp 16) 54 rfl 70 i0 _ 3 24 Try.underlying54 hi hz0 hz1 hz2 rfl (by decide) w none 0 0 (actsV []) rfl (Loc.start 3 w (w.alloc (.cells #[.int .i64 1, .int .i64 0, .int .i64 0] 70)) (al1 w _)) (some ⟨w.heap.size, 0, none⟩) 1 1 (actsV [(1, 0, 0)]) rfl (act_made w 1 0 0 _) 1 (actsV [(1, 0, 0)]) rfl rfl (by decide) (by decide) ?_; intro a1 c1 w1 hl; have HL := Lib.hid hl; clear hl); have HA := Lib.hid (show A0 = [(1, 0, 0)] from HA0.out); have HL0 : Hid (Loc 3 w w1 a1 A0.length c1 (actsV A0)) := Lib.hid (by rw [HA.out]; exact HL.out))
      | (go_wp2; have HA := Lib.hid (show A0 = [] from HA0.out); have HL0 : Hid (Loc 3 w w none A0.length 0 (actsV A0)) := Lib.hid (by rw [HA.out]; exact Loc.start 3 w w (Below.refl _ _)))
    go_loopw [7, 8] (fun s i wr => ∃ (k : Nat) (a' : Option Addr) (c' : Nat) (As : List ActT), k ≤ ready.length ∧ i = .int .i64 k ∧ s = .slice a' As.length c' ∧ As.length ≤ 1 + k * 16 ∧ Hid (Loc 3 w wr a' As.length c' (actsV As)) ∧ Hid (As = A0 ++ startsL (idleL st st.length) (busyL st st.length) (ready.take k))) (fun _ i _ => ready.length - (intOf i).toNat)
    case atStart =>
      refine ⟨0, _, _, A0, by omega, rfl, ?_, ?_, HL0, Lib.hid (by simp [startsL])⟩
      · rw [HA.out]; rfl
      · rw [HA.out]; decide
    case round =>
      obtain ⟨k, a', c', As, hk, rfl, rfl, hAl, HL, HAs⟩ := hrel
      obtain ⟨wo, rfl⟩ : ∃ wo : World, wo = wr := ⟨_, rfl⟩
      by_cases hlt : k < ready.length
      · obtain ⟨x, hx⟩ : ∃ x, ready[k]? = some x := ⟨_, List.getElem?_eq_getElem hlt⟩
        obtain ⟨br, or, rfl, x0⟩ := ints_at (HR.out.2.later HL.out.low) hx
        have HX := Lib.hid hx
        have HST := Lib.hid (starts_step (idleL st st.length) (busyL st st.length) ready k x hx)
        have HBX := Lib.hid (busy_contains st x)
        have HDo := Lib.hid (refDoes_any a c st x hn wo (HR.out.1.later HL.out.low))
        have k0 : (0 : Int) ≤ (k : Int) := by omega
        have k1 : (k : Int) < (ready.length : Int) := by omega
        generalize decide (some x ∈ st) = dB at *
        clear hx
        go_wp2_with (go_at_call 24; refine HDo.out.mono ?_; rintro e w2 ⟨rfl, rfl⟩)
        go_loopw [9, 10] (fun g j wr => ∃ (q : Nat) (ag : Bool), q ≤ k ∧ j = .int .i64 q ∧ g = .bool ag ∧ Hid (ag = (dB || (ready.take q).contains x)) ∧ Hid (Below wo.heap.size wo wr)) (fun _ j _ => k - (intOf j).toNat)
        case atStart => exact ⟨0, dB, by omega, rfl, rfl, Lib.hid (by simp), Lib.hid (Below.refl _ _)⟩
        case round =>
          obtain ⟨q, ag, hq, rfl, rfl, HAG, HB⟩ := hrel
          obtain ⟨wp, rfl⟩ : ∃ wp : World, wp = wr := ⟨_, rfl⟩
          by_cases hqk : q < k
          · obtain ⟨y, hy⟩ : ∃ y, ready[q]? = some y := ⟨_, List.getElem?_eq_getElem (by omega)⟩
            have HS := Lib.hid (take_contains_succ hy x dB)
            have hRp := HR.out.2.later (HL.out.low.trans (HB.out.mono HL.out.low.size))
            obtain ⟨br', or', e', y0⟩ := ints_at hRp hy
            obtain ⟨rfl, rfl⟩ : br = br' ∧ or = or' := (by simp at e'; exact e')
            have z0 := old_cell x0 HB.out
            have q0 : (0 : Int) ≤ (q : Int) := by omega
            have q1 : (q : Int) < (ready.length : Int) := by omega
            have q2 : (q : Int) < (k : Int) := by omega
            clear hy hRp e' x0
            cases ag with
            | true =>
              go_wp2
              go_quiet (fail)
              go_wp2
              go_roundw
              case rel => exact ⟨q + 1, true, by omega, by go_num, rfl, Lib.hid (by rw [HS.out, ← HAG.out]; rfl), Lib.hid (HB.out.trans ⟨rfl, rfl, rfl, Nat.le_refl _, fun _ _ => rfl⟩)⟩
              case measure => simp [intOf]; omega
            | false =>
              by_cases hyx : y = x
              · subst hyx
                go_wp2
                go_quiet (fail)
                go_wp2
                go_roundw
                case rel => exact ⟨q + 1, true, by omega, by go_num, rfl, Lib.hid (by rw [HS.out]; simp), Lib.hid (HB.out.trans ⟨rfl, rfl, rfl, Nat.le_refl _, fun _ _ => rfl⟩)⟩
                case measure => simp [intOf]; omega
              · have HN := Lib.hid hyx
                go_wp2
                go_quiet (fail)
                go_wp2
                go_roundw
                case rel => exact ⟨q + 1, false, by omega, by go_num, by simp [HN.out], Lib.hid (by rw [HS.out, ← HAG.out]; simp [HN.out]), Lib.hid (HB.out.trans ⟨rfl, rfl, rfl, Nat.le_refl _, fun _ _ => rfl⟩)⟩
                case measure => simp [intOf]; omega
          · obtain rfl : q = k := by omega
            have HLp := Lib.hid (HL.out.later HB.out)
            have z0 := old_cell x0 HB.out
            have HAX : Hid (ag = ((busyL st st.length).contains x || (ready.take q).contains x)) := Lib.hid (by rw [HBX.out]; exact HAG.out)
            clear x0
            have k2 : (q : Int) < (ready.length : Int) := by omega
            cases ag with
            | true =>
              have HSX : Hid (startsL (idleL st st.length) (busyL st st.length) (ready.take (q + 1)) = startsL (idleL st st.length) (busyL st st.length) (ready.take q)) := Lib.hid (by rw [HST.out, ← HAX.out]; simp)
              go_wp2
              go_loopw [7, 11] (fun s j wr => s = .slice a' As.length c' ∧ j = .int .i64 0 ∧ wr = wp) (fun _ _ _ => 0)
              case atStart => exact ⟨rfl, rfl, rfl⟩
              case round =>
                obtain ⟨rfl, rfl, rfl⟩ := hrel
                by_cases h0 : 0 < st.length
                all_goals
                  go_wp2
                  go_roundw
                  case rel => exact ⟨q + 1, a', c', As, by omega, by go_num, rfl, by omega, HLp, Lib.hid (by rw [HSX.out]; exact HAs.out)⟩
                  case measure => simp [intOf]; omega
            | false =>
              have HSX : Hid (startsL (idleL st st.length) (busyL st st.length) (ready.take (q + 1)) = startsL (idleL st st.length) (busyL st st.length) (ready.take q) ++ startsOf (idleL st st.length) x) := Lib.hid (by rw [HST.out, ← HAX.out]; simp)
              go_wp2
              go_loopw [7, 11] (fun s j wr => ∃ (m : Nat) (a2 : Option Addr) (c2 : Nat) (Bs : List ActT), m ≤ st.length ∧ j = .int .i64 m ∧ s = .slice a2 Bs.length c2 ∧ Bs.length ≤ As.length + m ∧ Hid (Loc 3 w wr a2 Bs.length c2 (actsV Bs)) ∧ Hid (Bs = As ++ startsOf (idleL st m) x)) (fun _ j _ => st.length - (intOf j).toNat)
              case atStart => exact ⟨0, a', c', As, by omega, rfl, rfl, by omega, HLp, Lib.hid (by simp [startsOf, idleL])⟩
              case round =>
                obtain ⟨m, a2, c2, Bs, hm2, rfl, rfl, hbl, HL2, HBs⟩ := hrel
                obtain ⟨wq, rfl⟩ : ∃ wq : World, wq = wr := ⟨_, rfl⟩
                by_cases hmt : m < st.length
                · obtain ⟨p, hp⟩ : ∃ p, st[m]? = some p := ⟨_, List.getElem?_eq_getElem hmt⟩
                  obtain ⟨b3, o3, rfl, y0, y1⟩ := wk_at (HR.out.1.later HL2.out.low) hp
                  obtain ⟨br', or', e', z1⟩ := ints_at (HR.out.2.later HL2.out.low) HX.out
                  obtain ⟨rfl, rfl⟩ : br = br' ∧ or = or' := (by simp at e'; exact e')
                  clear e'
                  have HS3 := Lib.hid (idle_step (x := x) hp)
                  have m0 : (0 : Int) ≤ (m : Int) := by omega
                  have m1 : (m : Int) < (st.length : Int) := by omega
                  clear hp z0
                  cases p with
                  | none =>
                    simp only [Option.getD_none, Option.isSome_none] at y0 y1
                    go_wp2_with (at_builtin; refine wpList_app_loc rfl (.tmp 63) (.tmp 70) 54 rfl 70 i0 _ 3 24 Try.underlying54 hi hz0 hz1 hz2 rfl (by decide) w a2 Bs.length c2 (actsV Bs) rfl (HL2.out.later (al1 wq _)) (some ⟨wq.heap.size, 0, none⟩) 1 1 (actsV [(2, (m : Int), x)]) rfl (act_made wq 2 (m : Int) x _) (Bs.length + 1) (actsV (Bs ++ [(2, (m : Int), x)])) rfl (actsV_append Bs [(2, (m : Int), x)]).symm (by unfold maxLen; omega) (by omega) ?_; intro a4 c4 w4 hl4; have H4 := Lib.hid (loc_snoc hl4); clear hl4)
                    go_roundw
                    case rel => exact ⟨m + 1, a4, c4, Bs ++ [(2, (m : Int), x)], by omega, by go_num, by rw [List.length_append]; rfl, by rw [List.length_append]; simp; omega, H4, Lib.hid (by rw [HS3.out, HBs.out, if_pos rfl, List.append_assoc])⟩
                    case measure => simp [intOf]; omega
                  | some d =>
                    simp only [Option.getD_some, Option.isSome_some] at y0 y1
                    go_wp2
                    go_roundw
                    case rel => exact ⟨m + 1, a2, c2, Bs, by omega, by go_num, rfl, by omega, HL2, Lib.hid (by rw [HS3.out, HBs.out]; simp)⟩
                    case measure => simp [intOf]; omega
                · obtain rfl : m = st.length := by omega
                  go_wp2
                  go_roundw
                  case rel => exact ⟨q + 1, a2, c2, Bs, by omega, by go_num, rfl, by omega, HL2, Lib.hid (by rw [HSX.out, HBs.out, HAs.out, List.append_assoc])⟩
                  case measure => simp [intOf]; omega
      · obtain rfl : k = ready.length := by omega
        rw [List.take_length] at HAs
        go_wp2
        go_loopw [7, 12] (fun s j wr => ∃ (m : Nat) (a2 : Option Addr) (c2 : Nat) (Bs : List ActT), m ≤ st.length ∧ j = .int .i64 m ∧ s = .slice a2 Bs.length c2 ∧ Bs.length ≤ As.length + m ∧ Hid (Loc 3 w wr a2 Bs.length c2 (actsV Bs)) ∧ Hid (Bs = As ++ finL st m)) (fun _ j _ => st.length - (intOf j).toNat)
        case atStart => exact ⟨0, a', c', As, by omega, rfl, rfl, by omega, HL, Lib.hid (by simp [finL])⟩
        case round =>
          obtain ⟨m, a2, c2, Bs, hm2, rfl, rfl, hbl, HL2, HBs⟩ := hrel
          obtain ⟨wq, rfl⟩ : ∃ wq : World, wq = wr := ⟨_, rfl⟩
          by_cases hmt : m < st.length
          · obtain ⟨p, hp⟩ : ∃ p, st[m]? = some p := ⟨_, List.getElem?_eq_getElem hmt⟩
            obtain ⟨b3, o3, rfl, y0, y1⟩ := wk_at (HR.out.1.later HL2.out.low) hp
            have HS3 := Lib.hid (fin_step hp)
            have m0 : (0 : Int) ≤ (m : Int) := by omega
            have m1 : (m : Int) < (st.length : Int) := by omega
            clear hp
            cases p with
            | some d =>
              simp only [Option.getD_some, Option.isSome_some] at y0 y1
              go_wp2_with (at_builtin; refine wpList_app_loc rfl (.tmp 83) (.tmp 91) 54 rfl 70 i0 _ 3 24 Try.underlying54 hi hz0 hz1 hz2 rfl (by decide) w a2 Bs.length c2 (actsV Bs) rfl (HL2.out.later (al1 wq _)) (some ⟨wq.heap.size, 0, none⟩) 1 1 (actsV [(3, (m : Int), d)]) rfl (act_made wq 3 (m : Int) d _) (Bs.length + 1) (actsV (Bs ++ [(3, (m : Int), d)])) rfl (actsV_append Bs [(3, (m : Int), d)]).symm (by unfold maxLen; omega) (by omega) ?_; intro a4 c4 w4 hl4; have H4 := Lib.hid (loc_snoc hl4); clear hl4)
              go_roundw
              case rel => exact ⟨m + 1, a4, c4, Bs ++ [(3, (m : Int), d)], by omega, by go_num, by rw [List.length_append]; rfl, by rw [List.length_append]; simp; omega, H4, Lib.hid (by rw [HS3.out, HBs.out, List.append_assoc]; rfl)⟩
              case measure => simp [intOf]; omega
            | none =>
              simp only [Option.getD_none, Option.isSome_none] at y0 y1
              go_wp2
              go_roundw
              case rel => exact ⟨m + 1, a2, c2, Bs, by omega, by go_num, rfl, by omega, HL2, Lib.hid (by rw [HS3.out, HBs.out]; simp [finOf])⟩
              case measure => simp [intOf]; omega
          · obtain rfl : m = st.length := by omega
            have HE : Hid (AL = Bs) := Lib.hid (by rw [HFB.out, HBs.out, HAs.out])
            go_wp2
            go_ret
            exact ⟨a2, c2, by rw [HE.out]; rfl, by rw [HE.out]; exact HL2.out.rd, HL2.out.low⟩
end Go.Proofs.Ytpfcghigfkhimaa
