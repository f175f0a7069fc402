/- The walk of KeysPuts. -/
import Derived.Test.YtakgpljpdcjmfaaKeysLaws2
import Derived.Deep.RegionWith
namespace Go.Proofs.Ytakgpljpdcjmfaa
open Go.RowKit

theorem wpAnyH_mono {P : Program} {md : Region.Mode} {ops : Array Oper} {Q : Exit → Act → World → Prop} {S S' : World → Prop} (hSS : ∀ w, S' w → S w) :
    ∀ (fuel : Nat) (listed : Array Bool) (a : Act) (w : World), wpAnyH P md ops Q S' fuel listed a w → wpAnyH P md ops Q S fuel listed a w
  | 0, _, _, _, h => h
  | fuel + 1, _, _, _, h => ⟨h.1, fun i hi => wpOp_mono (fun _ _ h' => ⟨hSS _ h'.1, wpAnyH_mono hSS fuel _ _ _ h'.2⟩) (h.2 i hi)⟩

set_option maxRecDepth 100000 in
set_option maxHeartbeats 2000000 in
theorem puts_walk (v : Int) (s : List UInt8) (hv : Ky.In v) (w : World) :
    Calls Try.prog 3 #[entV v s] w (Yes w) := by
  by_cases h1 : 100 < s.length
  · clear hv
    go_enter Try.func3, Try.ntmps3
    go_wp2_with (go_at_call 9; refine (awake_any _).mono ?_; rintro e w2 ⟨rfl, hb⟩; have HB := Lib.hid (box_one w v s _ hb).2; clear hb)
    go_ret
    exact ⟨rfl, HB.out⟩
  by_cases o1 : okKey s = true
  · have c1 : chk s = 0 := by unfold chk; rw [if_pos o1]
    have HP := Lib.hid (fun w => put_good v hv s w o1)
    have HC := Lib.hid (check_any s)
    have HR := Lib.hid (right_any s)
    have HVal := Lib.hid (refValue v hv)
    have hcat : binOp .add 9 (.string ⟨(Ky.enc v).toArray⟩) (.string ⟨s.toArray⟩) = pure (.string ⟨(Ky.put v s).toArray⟩) := cat_run _ _ _ (by rw [Ky.enc_length]; omega)
    have hee := str_eql 9 (Ky.put v s) (Ky.put v s)
    rw [beq_self_eq_true] at hee
    rw [c1] at HC
    rw [o1] at HR
    clear c1 o1 hv
    generalize Ky.put v s = K at *
    generalize Ky.enc v = E at *
    go_enter Try.func3, Try.ntmps3
    go_wp2_with (first
      | (go_at_call 10; refine (HP.out _).mono ?_; rintro e w1 ⟨rfl, hb⟩; have BX := Lib.hid (box_one w v s _ hb); clear hb; have k0 := BX.out.1.num; have k1 := BX.out.1.key)
      | (go_at_call 11; refine (HC.out _).mono ?_; rintro e w2 ⟨rfl, rfl⟩)
      | (go_at_call 12; refine (HR.out _).mono ?_; rintro e w2 ⟨rfl, rfl⟩))
    clear k0 k1
    refine wp_region_held_drew (S := fun W => W.cell? ⟨w.heap.size, 0, none⟩ = some (.int .i64 v) ∧ W.cell? ⟨w.heap.size, 1, none⟩ = some (.string ⟨s.toArray⟩)) (by kernel_rfl) ⟨BX.out.1.num, BX.out.1.key⟩ (fun hH => ?_)
    refine wpAnyH_take (i := 0) (v := ?v0) rfl (by kernel_rfl) (by kernel_rfl) (by kernel_rfl) (fun _ _ _ h => h) (Or.inl ⟨by rfl, ?hy0⟩) hH ?rest0
    case hy0 => (intro W hSw; (try dsimp only at hSw); go_simp; all_goals (with_reducible rfl))
    try simp only [List.getElem_toArray, List.getElem_cons_succ, List.getElem_cons_zero, Act.put, List.setIfInBounds_toArray, List.set_cons_zero, List.set_cons_succ]
    refine wpAnyH_take (i := 1) (v := ?v1) rfl (by kernel_rfl) (by kernel_rfl) (by kernel_rfl) (fun _ _ _ h => h) (Or.inl ⟨by rfl, ?hy1⟩) hH ?rest1
    case hy1 => (intro W hSw; (try dsimp only at hSw); go_simp; all_goals (with_reducible rfl))
    try simp only [List.getElem_toArray, List.getElem_cons_succ, List.getElem_cons_zero, Act.put, List.setIfInBounds_toArray, List.set_cons_zero, List.set_cons_succ]
    refine wpAnyH_take (i := 2) (v := ?v2) rfl (by kernel_rfl) (by kernel_rfl) (by kernel_rfl) (fun _ _ _ h => h) (Or.inl ⟨by rfl, ?hy2⟩) hH ?rest2
    case hy2 => (intro W hSw; (try dsimp only at hSw); go_simp; all_goals (with_reducible rfl))
    try simp only [List.getElem_toArray, List.getElem_cons_succ, List.getElem_cons_zero, Act.put, List.setIfInBounds_toArray, List.set_cons_zero, List.set_cons_succ]
    refine wpAnyH_take (i := 5) (v := ?v5) rfl (by kernel_rfl) (by kernel_rfl) (by kernel_rfl) (fun _ _ _ h => h) (Or.inl ⟨by rfl, ?hy5⟩) hH ?rest5
    case hy5 => (intro W hSw; (try dsimp only at hSw); go_simp; all_goals (with_reducible rfl))
    try simp only [List.getElem_toArray, List.getElem_cons_succ, List.getElem_cons_zero, Act.put, List.setIfInBounds_toArray, List.set_cons_zero, List.set_cons_succ]
    refine wpAnyH_take (i := 6) (v := ?v6) rfl (by kernel_rfl) (by kernel_rfl) (by kernel_rfl) (fun _ _ _ h => h) (Or.inl ⟨by rfl, ?hy6⟩) hH ?rest6
    case hy6 => (intro W hSw; (try dsimp only at hSw); go_simp; all_goals (with_reducible rfl))
    try simp only [List.getElem_toArray, List.getElem_cons_succ, List.getElem_cons_zero, Act.put, List.setIfInBounds_toArray, List.set_cons_zero, List.set_cons_succ]
    refine wpAnyH_ready (rs := [3]) (by kernel_rfl) (by simp) ?_
    refine AllReadyH.cons rfl (fun K hK => ?_) AllReadyH.nil
    simp only [List.getElem_toArray, List.getElem_cons_succ, List.getElem_cons_zero]
    go_simp
    (go_at_call 13; refine (HVal.out _).mono ?_; rintro e w3 ⟨a3, c3, rfl, hrd3, hb3⟩; have HB3 := Lib.hid ((Below.refl w1.heap.size w1).drew.trans hb3); have HRD := Lib.hid hrd3; clear hb3 hrd3)
    refine hK.out _ _ ⟨old_cell BX.out.1.num HB3.out, old_cell BX.out.1.key HB3.out⟩ (fun hH2 => ?_)
    clear hK K hH
    try simp only [List.getElem_toArray, List.getElem_cons_succ, List.getElem_cons_zero, Act.put, List.setIfInBounds_toArray, List.set_cons_zero, List.set_cons_succ]
    refine wpAnyH_mono (S' := fun W => (W.cell? ⟨w.heap.size, 0, none⟩ = some (.int .i64 v) ∧ W.cell? ⟨w.heap.size, 1, none⟩ = some (.string ⟨s.toArray⟩)) ∧ RdB W a3 c3 E) (fun _ h => h.1) _ _ _ _ ?_
    have hH3 : (w3.cell? ⟨w.heap.size, 0, none⟩ = some (.int .i64 v) ∧ w3.cell? ⟨w.heap.size, 1, none⟩ = some (.string ⟨s.toArray⟩)) ∧ RdB w3 a3 c3 E := ⟨hH2, HRD.out⟩
    clear hH2
    refine wpAnyH_take (i := 4) (v := ?v4) rfl (by kernel_rfl) (by kernel_rfl) (by kernel_rfl) (fun _ _ _ h => h) (Or.inl ⟨by rfl, ?hy4⟩) hH3 ?rest4
    case hy4 => (intro W hSw; (try dsimp only at hSw); have hcv := conv_str hSw.2; go_simp; all_goals (with_reducible rfl))
    try simp only [List.getElem_toArray, List.getElem_cons_succ, List.getElem_cons_zero, Act.put, List.setIfInBounds_toArray, List.set_cons_zero, List.set_cons_succ]
    refine wpAnyH_take (i := 7) (v := ?v7) rfl (by kernel_rfl) (by kernel_rfl) (by kernel_rfl) (fun _ _ _ h => h) (Or.inl ⟨by rfl, ?hy7⟩) hH3 ?rest7
    case hy7 => (intro W hSw; (try dsimp only at hSw); go_simp; all_goals (with_reducible rfl))
    try simp only [List.getElem_toArray, List.getElem_cons_succ, List.getElem_cons_zero, Act.put, List.setIfInBounds_toArray, List.set_cons_zero, List.set_cons_succ]
    refine wpAnyH_take (i := 8) (v := ?v8) rfl (by kernel_rfl) (by kernel_rfl) (by kernel_rfl) (fun _ _ _ h => h) (Or.inl ⟨by rfl, ?hy8⟩) hH3 ?rest8
    case hy8 => (intro W hSw; (try dsimp only at hSw); go_simp; all_goals (with_reducible rfl))
    try simp only [List.getElem_toArray, List.getElem_cons_succ, List.getElem_cons_zero, Act.put, List.setIfInBounds_toArray, List.set_cons_zero, List.set_cons_succ]
    refine wpAnyH_take (i := 9) (v := ?v9) rfl (by kernel_rfl) (by kernel_rfl) (by kernel_rfl) (fun _ _ _ h => h) (Or.inl ⟨by rfl, ?hy9⟩) hH3 ?rest9
    case hy9 => (intro W hSw; (try dsimp only at hSw); go_simp; all_goals (with_reducible rfl))
    try simp only [List.getElem_toArray, List.getElem_cons_succ, List.getElem_cons_zero, Act.put, List.setIfInBounds_toArray, List.set_cons_zero, List.set_cons_succ]
    refine wpAnyH_take (i := 10) (v := ?v10) rfl (by kernel_rfl) (by kernel_rfl) (by kernel_rfl) (fun _ _ _ h => h) (Or.inl ⟨by rfl, ?hy10⟩) hH3 ?rest10
    case hy10 => (intro W hSw; (try dsimp only at hSw); go_simp; all_goals (with_reducible rfl))
    try simp only [List.getElem_toArray, List.getElem_cons_succ, List.getElem_cons_zero, Act.put, List.setIfInBounds_toArray, List.set_cons_zero, List.set_cons_succ]
    refine wpAnyH_take (i := 11) (v := ?v11) rfl (by kernel_rfl) (by kernel_rfl) (by kernel_rfl) (fun _ _ _ h => h) (Or.inl ⟨by rfl, ?hy11⟩) hH3 ?rest11
    case hy11 => (intro W hSw; (try dsimp only at hSw); go_simp; all_goals (with_reducible rfl))
    try simp only [List.getElem_toArray, List.getElem_cons_succ, List.getElem_cons_zero, Act.put, List.setIfInBounds_toArray, List.set_cons_zero, List.set_cons_succ]
    refine wpAnyH_take (i := 12) (v := ?v12) rfl (by kernel_rfl) (by kernel_rfl) (by kernel_rfl) (fun _ _ _ h => h) (Or.inl ⟨by rfl, ?hy12⟩) hH3 ?rest12
    case hy12 => (intro W hSw; (try dsimp only at hSw); go_simp; all_goals (with_reducible rfl))
    try simp only [List.getElem_toArray, List.getElem_cons_succ, List.getElem_cons_zero, Act.put, List.setIfInBounds_toArray, List.set_cons_zero, List.set_cons_succ]
    refine wpAnyH_take (i := 13) (v := ?v13) rfl (by kernel_rfl) (by kernel_rfl) (by kernel_rfl) (fun _ _ _ h => h) (Or.inl ⟨by rfl, ?hy13⟩) hH3 ?rest13
    case hy13 => (intro W hSw; (try dsimp only at hSw); go_simp; all_goals (with_reducible rfl))
    try simp only [List.getElem_toArray, List.getElem_cons_succ, List.getElem_cons_zero, Act.put, List.setIfInBounds_toArray, List.set_cons_zero, List.set_cons_succ]
    refine wpAnyH_take (i := 14) (v := ?v14) rfl (by kernel_rfl) (by kernel_rfl) (by kernel_rfl) (fun _ _ _ h => h) (Or.inl ⟨by rfl, ?hy14⟩) hH3 ?rest14
    case hy14 => (intro W hSw; (try dsimp only at hSw); go_simp; all_goals (with_reducible rfl))
    try simp only [List.getElem_toArray, List.getElem_cons_succ, List.getElem_cons_zero, Act.put, List.setIfInBounds_toArray, List.set_cons_zero, List.set_cons_succ]
    refine wpAnyH_take (i := 15) (v := ?v15) rfl (by kernel_rfl) (by kernel_rfl) (by kernel_rfl) (fun _ _ _ h => h) (Or.inl ⟨by rfl, ?hy15⟩) hH3 ?rest15
    case hy15 => (intro W hSw; (try dsimp only at hSw); go_simp; all_goals (with_reducible rfl))
    try simp only [List.getElem_toArray, List.getElem_cons_succ, List.getElem_cons_zero, Act.put, List.setIfInBounds_toArray, List.set_cons_zero, List.set_cons_succ]
    refine wpAnyH_take (i := 16) (v := ?v16) rfl (by kernel_rfl) (by kernel_rfl) (by kernel_rfl) (fun _ _ _ h => h) (Or.inl ⟨by rfl, ?hy16⟩) hH3 ?rest16
    case hy16 => (intro W hSw; (try dsimp only at hSw); go_simp; all_goals (with_reducible rfl))
    try simp only [List.getElem_toArray, List.getElem_cons_succ, List.getElem_cons_zero, Act.put, List.setIfInBounds_toArray, List.set_cons_zero, List.set_cons_succ]
    refine wpAnyH_take (i := 17) (v := ?v17) rfl (by kernel_rfl) (by kernel_rfl) (by kernel_rfl) (fun _ _ _ h => h) (Or.inl ⟨by rfl, ?hy17⟩) hH3 ?rest17
    case hy17 => (intro W hSw; (try dsimp only at hSw); go_simp; all_goals (with_reducible rfl))
    try simp only [List.getElem_toArray, List.getElem_cons_succ, List.getElem_cons_zero, Act.put, List.setIfInBounds_toArray, List.set_cons_zero, List.set_cons_succ]
    refine wpAnyH_take (i := 18) (v := ?v18) rfl (by kernel_rfl) (by kernel_rfl) (by kernel_rfl) (fun _ _ _ h => h) (Or.inl ⟨by rfl, ?hy18⟩) hH3 ?rest18
    case hy18 => (intro W hSw; (try dsimp only at hSw); go_simp; all_goals (with_reducible rfl))
    try simp only [List.getElem_toArray, List.getElem_cons_succ, List.getElem_cons_zero, Act.put, List.setIfInBounds_toArray, List.set_cons_zero, List.set_cons_succ]
    refine wpAnyH_ready (rs := [19]) (by kernel_rfl) (by simp) ?_
    refine AllReadyH.cons rfl (fun K hK => ?_) AllReadyH.nil
    simp only [List.getElem_toArray, List.getElem_cons_succ, List.getElem_cons_zero]
    go_simp
    (go_at_call 9; refine (awake_any _).mono ?_; rintro e w4 ⟨rfl, hb⟩; have HB4 := Lib.hid hb; clear hb)
    refine hK.out _ _ ⟨⟨old_cell hH3.1.1 HB4.out, old_cell hH3.1.2 HB4.out⟩, RdB.later hH3.2 HB4.out⟩ (fun hH4 => ?_)
    clear hK K hH3
    try simp only [List.getElem_toArray, List.getElem_cons_succ, List.getElem_cons_zero, Act.put, List.setIfInBounds_toArray, List.set_cons_zero, List.set_cons_succ]
    refine wpAnyH_take (i := 20) (v := ?v20) rfl (by kernel_rfl) (by kernel_rfl) (by kernel_rfl) (fun _ _ _ h => h) (Or.inl ⟨by rfl, ?hy20⟩) hH4 ?rest20
    case hy20 => (intro W hSw; (try dsimp only at hSw); go_simp; all_goals (with_reducible rfl))
    try simp only [List.getElem_toArray, List.getElem_cons_succ, List.getElem_cons_zero, Act.put, List.setIfInBounds_toArray, List.set_cons_zero, List.set_cons_succ]
    refine wpAnyH_take (i := 21) (v := ?v21) rfl (by kernel_rfl) (by kernel_rfl) (by kernel_rfl) (fun _ _ _ h => h) (Or.inl ⟨by rfl, ?hy21⟩) hH4 ?rest21
    case hy21 => (intro W hSw; (try dsimp only at hSw); go_simp; all_goals (with_reducible rfl))
    try simp only [List.getElem_toArray, List.getElem_cons_succ, List.getElem_cons_zero, Act.put, List.setIfInBounds_toArray, List.set_cons_zero, List.set_cons_succ]
    refine wpAnyH_done (by kernel_rfl) ?_ _
    go_wp2
    go_ret
    exact ⟨rfl, (BX.out.2.trans (HB3.out.mono BX.out.2.size)).trans (HB4.out.mono (BX.out.2.trans (HB3.out.mono BX.out.2.size)).size)⟩
  · have c1 : chk s = 13 := by unfold chk; rw [if_neg o1]
    have o1' : okKey s = false := by simpa using o1
    have HP := Lib.hid (fun w => put_bad v s w o1')
    have HC := Lib.hid (check_any s)
    have HR := Lib.hid (right_any s)
    rw [c1] at HC
    rw [o1'] at HR
    clear c1 o1 hv o1'
    go_enter Try.func3, Try.ntmps3
    go_wp2_with (first
      | (go_at_call 10; refine (HP.out _).mono ?_; rintro e w1 ⟨rfl, hb⟩; have BX := Lib.hid (box_one w v s _ hb); clear hb; have k0 := BX.out.1.num; have k1 := BX.out.1.key)
      | (go_at_call 11; refine (HC.out _).mono ?_; rintro e w2 ⟨rfl, rfl⟩)
      | (go_at_call 12; refine (HR.out _).mono ?_; rintro e w2 ⟨rfl, rfl⟩)
      | (go_at_call 9; refine (awake_any _).mono ?_; rintro e w4 ⟨rfl, hb⟩; have HB4 := Lib.hid (BX.out.2.trans (hb.mono BX.out.2.size)); clear hb))
    go_ret
    exact ⟨rfl, HB4.out⟩

end Go.Proofs.Ytakgpljpdcjmfaa
