/- The law's idle and same; plain facts on who does what. -/
import Derived.Test.YtpfcghigfkhimaaSched14
namespace Go.Proofs.Ytpfcghigfkhimaa
open Go.RowKit

theorem look_of {st : List (Option Int)} {k : Nat} {x : Option Int} (h : st[k]? = some x) : look st (k : Int) = x := by
  unfold look
  rw [if_pos (by omega), Int.toNat_natCast, h]
  rfl
theorem mem_busy (st : List (Option Int)) (k : Nat) (x : Int) : x ∈ busyL st k ↔ ∃ i, i < k ∧ look st (i : Int) = some x := by
  induction k with
  | zero => simp [busyL]
  | succ k ih =>
    rw [busyL, List.mem_append, ih]
    constructor
    · rintro (⟨i, h1, h2⟩ | h)
      · exact ⟨i, by omega, h2⟩
      · cases hl : look st (k : Int) with
        | none => rw [hl] at h; cases h
        | some d =>
          rw [hl] at h
          rw [List.mem_singleton] at h
          subst h
          exact ⟨k, by omega, hl⟩
    · rintro ⟨i, h1, h2⟩
      by_cases hi : i = k
      · subst hi
        rw [h2]
        exact .inr (List.mem_singleton.2 rfl)
      · exact .inl ⟨i, by omega, h2⟩
theorem busy_contains (st : List (Option Int)) (x : Int) : (busyL st st.length).contains x = decide (some x ∈ st) := by
  rw [Bool.eq_iff_iff, List.contains_iff_mem, decide_eq_true_eq, mem_busy]
  constructor
  · rintro ⟨i, h1, h2⟩
    rw [look_of (List.getElem?_eq_getElem h1)] at h2
    rw [← h2]
    exact List.getElem_mem h1
  · intro h
    obtain ⟨i, hi, e⟩ := List.mem_iff_getElem.1 h
    exact ⟨i, hi, by rw [look_of (List.getElem?_eq_getElem hi), e]⟩

set_option maxHeartbeats 1000000 in
theorem lawIdle_any (a : Option Addr) (c : Nat) (st : List (Option Int)) (hn : st.length ≤ 16) (w : World) (h : Rd w 2 a st.length c (wksV st)) :
    Calls Try.prog 18 #[.slice a st.length c] w fun e w' => ∃ a' c', e = .returned (.slice a' (idleL st st.length).length c') ∧ Rd w' 1 a' (idleL st st.length).length c' (intsV (idleL st st.length)) ∧ Below w.heap.size w w' := by
  obtain ⟨i0, hi, hz0, hz1, hz2⟩ := info_parts Try.infoInt
  have HR := Lib.hid h
  clear h
  go_enter Try.func18, Try.ntmps18
  go_wp2
  go_loopw [3, 4] (fun s i wr => ∃ (k : Nat) (a' : Option Addr) (c' : Nat), k ≤ st.length ∧ i = .int .i64 k ∧ s = .slice a' (idleL st k).length c' ∧ Hid (Loc 1 w wr a' (idleL st k).length c' (intsV (idleL st k)))) (fun _ i _ => st.length - (intOf i).toNat)
  case atStart => exact ⟨0, none, 0, by omega, rfl, rfl, Lib.hid (Loc.start 1 w w (Below.refl _ _))⟩
  case round =>
    obtain ⟨k, a', c', hk, rfl, rfl, HL⟩ := hrel
    obtain ⟨wo, rfl⟩ : ∃ wo : World, wo = wr := ⟨_, rfl⟩
    have hil := idleL_len st k
    by_cases hlt : k < st.length
    · obtain ⟨x, hx⟩ : ∃ x, st[k]? = some x := ⟨_, List.getElem?_eq_getElem hlt⟩
      obtain ⟨b, o, rfl, x0, x1⟩ := wk_at (HR.out.later HL.out.low) hx
      have k0 : (0 : Int) ≤ (k : Int) := by omega
      have k1 : (k : Int) < (st.length : Int) := by omega
      have hl := look_of hx
      clear hx
      cases x with
      | none =>
        have HE : Hid (idleL st (k + 1) = idleL st k ++ [(k : Int)]) := Lib.hid (by rw [idleL, if_pos hl])
        simp only [Option.getD_none, Option.isSome_none] at x0 x1
        clear hl
        go_wp2_with (at_builtin; refine wpList_app_loc rfl (.tmp 17) (.tmp 19) 22 rfl 3 i0 (.int .i64 0) 1 8 Try.underlying22 hi hz0 hz1 hz2 rfl (by decide) w a' (idleL st k).length c' (intsV (idleL st k)) rfl (HL.out.later (al1 wo _)) (some ⟨wo.heap.size, 0, none⟩) 1 1 [.int .i64 (k : Int)] rfl (Rd.oneNew wo (.int .i64 (k : Int)) 3 rfl) ((idleL st k).length + 1) (intsV (idleL st k ++ [(k : Int)])) rfl (intsV_append (idleL st k) [(k : Int)]).symm (by unfold maxLen; omega) (by omega) ?_; intro a2 c2 w2 hl2; have H2 := Lib.hid hl2; clear hl2)
        go_roundw
        case rel => exact ⟨k + 1, a2, c2, by omega, by go_num, by rw [HE.out, List.length_append]; rfl, Lib.hid (by rw [HE.out, List.length_append]; exact H2.out)⟩
        case measure => simp [intOf]; omega
      | some d =>
        have HE : Hid (idleL st (k + 1) = idleL st k) := Lib.hid (by rw [idleL, if_neg (by rw [hl]; exact fun h => by cases h), List.append_nil])
        simp only [Option.getD_some, Option.isSome_some] at x0 x1
        clear hl
        go_wp2
        go_roundw
        case rel => exact ⟨k + 1, a', c', by omega, by go_num, by rw [HE.out], Lib.hid (by rw [HE.out]; exact HL.out)⟩
        case measure => simp [intOf]; omega
    · obtain rfl : k = st.length := by omega
      go_wp2
      go_ret
      exact ⟨_, _, rfl, HL.out.rd, HL.out.low⟩
set_option maxHeartbeats 1000000 in
theorem lawSame_true (a : Option Addr) (c : Nat) (a2 : Option Addr) (c2 : Nat) (L : List ActT) (hn : L.length ≤ 1000000) (w : World) (h : Rd w 3 a L.length c (actsV L)) (h2 : Rd w 3 a2 L.length c2 (actsV L)) :
    Calls Try.prog 19 #[.slice a L.length c, .slice a2 L.length c2] w (Yes w) := by
  have hgd := guardAct
  have HR := Lib.hid (And.intro h h2)
  clear h h2
  go_enter Try.func19, Try.ntmps19
  go_wp2
  go_loopw [5] (fun i wr => ∃ (k : Nat), k ≤ L.length ∧ i = .int .i64 k ∧ Hid (Below w.heap.size w wr)) (fun i _ => L.length - (intOf i).toNat)
  case atStart => exact ⟨0, by omega, rfl, Lib.hid (Below.refl _ _)⟩
  case round =>
    obtain ⟨k, hk, rfl, HB⟩ := hrel
    obtain ⟨wo, rfl⟩ : ∃ wo : World, wo = wr := ⟨_, rfl⟩
    by_cases hlt : k < L.length
    · obtain ⟨x, hx⟩ : ∃ x, L[k]? = some x := ⟨_, List.getElem?_eq_getElem hlt⟩
      obtain ⟨b, o, rfl, x0, x1, x2⟩ := act_at (HR.out.1.later HB.out) hx
      obtain ⟨b2, o2, rfl, y0, y1, y2⟩ := act_at (HR.out.2.later HB.out) hx
      have k0 : (0 : Int) ≤ (k : Int) := by omega
      have k1 : (k : Int) < (L.length : Int) := by omega
      have heq := neqAct x.1 x.2.1 x.2.2 x.1 x.2.1 x.2.2 true (by simp)
      clear hx
      go_wp2
      go_quiet (fail)
      go_wp2
      go_roundw
      case rel => exact ⟨k + 1, by omega, by go_num, Lib.hid (HB.out.trans ⟨rfl, rfl, rfl, Nat.le_refl _, fun _ _ => rfl⟩)⟩
      case measure => simp [intOf]; omega
    · obtain rfl : k = L.length := by omega
      go_wp2
      go_ret
      exact ⟨rfl, HB.out⟩
end Go.Proofs.Ytpfcghigfkhimaa
