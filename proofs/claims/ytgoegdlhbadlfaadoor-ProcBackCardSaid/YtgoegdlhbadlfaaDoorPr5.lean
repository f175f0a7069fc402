/- Package proc: Check. -/
import Derived.Test.YtgoegdlhbadlfaaDoorPr4
namespace Go.Proofs.YtgoegdlhbadlfaaDoor
namespace Pc
open Go.RowKit
theorem formed_is {x : OpP} (h : formedP x = true) : isDo x := by
  unfold formedP at h
  simp only [Bool.and_eq_true, decide_eq_true_eq] at h
  exact h.1
theorem ranged_hold {x : OpP} (h : rangedP x = true) (hh : holdsP x = true) : 0 ≤ x.2.2.2.2 ∧ x.2.2.2.2 ≤ 64 := by
  unfold rangedP at h
  unfold holdsP at hh
  rcases of_decide_eq_true hh with e | e
  · rw [e] at h
    have h1 := List.all_eq_true.1 h 3 (by decide)
    unfold inX at h1
    have h2 := of_decide_eq_true h1
    simp [loP, hiP, fld, e] at h2
    exact h2
  · rw [e] at h
    have h1 := List.all_eq_true.1 h 3 (by decide)
    unfold inX at h1
    have h2 := of_decide_eq_true h1
    simp [loP, hiP, fld, e] at h2
    exact h2
set_option maxRecDepth 100000 in
set_option maxHeartbeats 4000000 in
theorem check_any (l : List OpP) (a : Option Addr) (c : Nat) (w : World) (hL : Laid w) (hrd : Rd w 5 a l.length c (opsV l)) :
    Calls Tryd.prog 10 #[.slice a l.length c] w fun e V => e = .returned (.int .i64 (checkP l)) ∧ Below w.heap.size w V := by
  have hG := hL.size
  have hmax : l.length ≤ maxLen := Nat.le_trans hrd.le hrd.cap
  unfold maxLen at hmax
  have HR := Lib.hid hrd
  have HL := Lib.hid hL
  clear hrd hL
  by_cases h64 : 64 < l.length
  · go_enter Tryd.func10, Tryd.ntmps10
    go_wp2
    go_ret
    exact ⟨by unfold checkP; rw [if_pos h64]; rfl, Below.refl _ _⟩
  · go_enter Tryd.func10, Tryd.ntmps10
    go_wp2
    go_loopw [12] (fun i wr => ∃ k : Nat, k ≤ l.length ∧ i = .int .i64 k ∧ Hid (Below w.heap.size w wr ∧ (l.take k).all formedP = true)) (fun i _ => l.length - (intP i).toNat)
    case atStart => exact ⟨0, by omega, rfl, Lib.hid ⟨Below.refl _ _, rfl⟩⟩
    case round =>
      obtain ⟨k, hk, rfl, HB⟩ := hrel
      obtain ⟨wo, rfl⟩ : ∃ wo : World, wo = wr := ⟨_, rfl⟩
      by_cases hlt : k < l.length
      · obtain ⟨x, hx⟩ : ∃ x, l[k]? = some x := ⟨_, List.getElem?_eq_getElem hlt⟩
        have hHx := Lib.hid hx
        obtain ⟨b, o, rfl, hc⟩ := op_at (HR.out.later HB.out.1) hx
        have c0 := hc 0 _ (by omega) rfl
        have c1 := hc 1 _ (by omega) rfl
        have c2 := hc 2 _ (by omega) rfl
        have c3 := hc 3 _ (by omega) rfl
        have c4 := hc 4 _ (by omega) rfl
        rw [Nat.add_zero] at c0
        have k0 : (0 : Int) ≤ (k : Int) := by omega
        have k1 : (k : Int) < (l.length : Int) := by omega
        have hLo := HL.out.later HB.out.1 hG
        have HLo := Lib.hid hLo
        clear hc hx hLo
        by_cases hf : formedP x = true
        · have HF := Lib.hid hf
          clear hf
          go_wp2_with (go_at_call 19; refine (formed_any x _ (HLo.out.later (al1 wo _) HLo.out.size)).mono ?_; rintro _ W ⟨rfl, hbW⟩; rw [HF.out]; have HW := Lib.hid hbW; clear hbW)
          go_roundw
          case rel => exact ⟨k + 1, by omega, by go_num, Lib.hid ⟨HB.out.1.trans (((al1 wo _).trans (HW.out.mono (by simp))).mono HB.out.1.size), by rw [all_take_succ hHx.out, HB.out.2, HF.out]; rfl⟩⟩
          case measure => simp [intP]; omega
        · have hf' : formedP x = false := by simpa using hf
          have HF := Lib.hid hf'
          clear hf hf'
          go_wp2_with (go_at_call 19; refine (formed_any x _ (HLo.out.later (al1 wo _) HLo.out.size)).mono ?_; rintro _ W ⟨rfl, hbW⟩; rw [HF.out]; have HW := Lib.hid hbW; clear hbW)
          go_ret
          have hn : l.all formedP = false := List.all_eq_false.2 ⟨x, List.mem_of_getElem? hHx.out, by rw [HF.out]; simp⟩
          exact ⟨by unfold checkP; rw [if_neg h64, hn]; rfl, HB.out.1.trans (((al1 wo _).trans (HW.out.mono (by simp))).mono HB.out.1.size)⟩
      · obtain rfl : k = l.length := by omega
        have hall := HB.out.2
        rw [List.take_length] at hall
        have HA := Lib.hid hall
        have HB1 := Lib.hid HB.out.1
        clear hall HB
        go_wp2
        go_loopw [22] (fun i wr => ∃ k : Nat, k ≤ l.length ∧ i = .int .i64 k ∧ Hid (Below w.heap.size w wr ∧ (l.take k).all rangedP = true)) (fun i _ => l.length - (intP i).toNat)
        case atStart => exact ⟨0, by omega, rfl, Lib.hid ⟨HB1.out, rfl⟩⟩
        case round =>
          obtain ⟨k, hk, rfl, HB⟩ := hrel
          obtain ⟨wp, rfl⟩ : ∃ wp : World, wp = wr := ⟨_, rfl⟩
          by_cases hlt : k < l.length
          · obtain ⟨x, hx⟩ : ∃ x, l[k]? = some x := ⟨_, List.getElem?_eq_getElem hlt⟩
            have hHx := Lib.hid hx
            obtain ⟨b, o, rfl, hc⟩ := op_at (HR.out.later HB.out.1) hx
            have c0 := hc 0 _ (by omega) rfl
            have c1 := hc 1 _ (by omega) rfl
            have c2 := hc 2 _ (by omega) rfl
            have c3 := hc 3 _ (by omega) rfl
            have c4 := hc 4 _ (by omega) rfl
            rw [Nat.add_zero] at c0
            have k0 : (0 : Int) ≤ (k : Int) := by omega
            have k1 : (k : Int) < (l.length : Int) := by omega
            have hLo := HL.out.later HB.out.1 hG
            have HLo := Lib.hid hLo
            have hdo := formed_is (List.all_eq_true.1 HA.out x (List.mem_of_getElem? hx))
            have HD := Lib.hid hdo
            clear hc hx hLo hdo
            by_cases hf : rangedP x = true
            · have HF := Lib.hid hf
              clear hf
              go_wp2_with (go_at_call 20; refine (ranged_any x _ (HLo.out.later (al1 wp _) HLo.out.size) HD.out).mono ?_; rintro _ W ⟨rfl, hbW⟩; rw [HF.out]; have HW := Lib.hid hbW; clear hbW)
              go_roundw
              case rel => exact ⟨k + 1, by omega, by go_num, Lib.hid ⟨HB.out.1.trans (((al1 wp _).trans (HW.out.mono (by simp))).mono HB.out.1.size), by rw [all_take_succ hHx.out, HB.out.2, HF.out]; rfl⟩⟩
              case measure => simp [intP]; omega
            · have hf' : rangedP x = false := by simpa using hf
              have HF := Lib.hid hf'
              clear hf hf'
              go_wp2_with (go_at_call 20; refine (ranged_any x _ (HLo.out.later (al1 wp _) HLo.out.size) HD.out).mono ?_; rintro _ W ⟨rfl, hbW⟩; rw [HF.out]; have HW := Lib.hid hbW; clear hbW)
              go_ret
              have hn : l.all rangedP = false := List.all_eq_false.2 ⟨x, List.mem_of_getElem? hHx.out, by rw [HF.out]; simp⟩
              exact ⟨by unfold checkP; rw [if_neg h64, HA.out, hn]; rfl, HB.out.1.trans (((al1 wp _).trans (HW.out.mono (by simp))).mono HB.out.1.size)⟩
          · obtain rfl : k = l.length := by omega
            have hall := HB.out.2
            rw [List.take_length] at hall
            have HA2 := Lib.hid hall
            clear hall
            have HC := Lib.hid (nested_any l a c wp (by omega) (HR.out.later HB.out.1) (fun x hx hh => ranged_hold (List.all_eq_true.1 HA2.out x hx) hh))
            by_cases hn : nestedP l = true
            · have HN := Lib.hid hn
              clear hn
              go_wp2_with (go_at_call 21; refine HC.out.mono ?_; rintro _ W ⟨rfl, hbW⟩; rw [HN.out]; have HW := Lib.hid hbW; clear hbW)
              go_ret
              exact ⟨by unfold checkP; rw [if_neg h64, HA.out, HA2.out, HN.out]; rfl, HB.out.1.trans (HW.out.mono HB.out.1.size)⟩
            · have hn' : nestedP l = false := by simpa using hn
              have HN := Lib.hid hn'
              clear hn hn'
              go_wp2_with (go_at_call 21; refine HC.out.mono ?_; rintro _ W ⟨rfl, hbW⟩; rw [HN.out]; have HW := Lib.hid hbW; clear hbW)
              go_ret
              exact ⟨by unfold checkP; rw [if_neg h64, HA.out, HA2.out, HN.out]; rfl, HB.out.1.trans (HW.out.mono HB.out.1.size)⟩
end Pc
end Go.Proofs.YtgoegdlhbadlfaaDoor
