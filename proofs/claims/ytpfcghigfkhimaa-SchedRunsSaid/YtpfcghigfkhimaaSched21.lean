/- The laws of package sched: SchedRuns, its walk. -/
import Derived.Test.YtpfcghigfkhimaaSched20
import Derived.Deep.Cut
namespace Go.Proofs.Ytpfcghigfkhimaa
open Go.RowKit

theorem wf_rng {n : Int} (h : (Lit.int .i64 n).wf = true) : -9223372036854775808 ≤ n ∧ n ≤ 9223372036854775807 := by
  simp [Lit.wf, IntKind.min, IntKind.max, IntKind.signed, IntKind.bits] at h
  omega
theorem wf_small {n : Int} (h0 : 0 ≤ n) (h : n ≤ 1000) : (Lit.int .i64 n).wf = true := by
  simp [Lit.wf, IntKind.min, IntKind.max, IntKind.signed, IntKind.bits]
  omega
/-- What Pick picks, if there is an act. -/
theorem pick_ex (z : Int) (hz : (Lit.int .i64 z).wf = true) (L : List ActT) (hn : 1 ≤ L.length) (hm : L.length ≤ 1000000) : ∃ x ∈ L, ∀ (a : Option Addr) (c : Nat) (w : World), Rd w 3 a L.length c (actsV L) →
    Calls Try.prog 14 #[.int .i64 z, .slice a L.length c] w fun e w' => e = .returned (.tuple #[actV x.1 x.2.1 x.2.2, .int .i64 0]) ∧ Below w.heap.size w w' := by
  have hlt : pickAt z L.length < L.length := by
    unfold pickAt
    have h1 := Int.emod_lt_of_pos z (show (0 : Int) < (L.length : Int) by omega)
    have h2 := Int.emod_nonneg z (show (L.length : Int) ≠ 0 by omega)
    omega
  exact ⟨L[pickAt z L.length], List.getElem_mem hlt, fun a c w h => pick_some z (wf_rng hz) a c L hn hm _ (List.getElem?_eq_getElem hlt) w h⟩
theorem filt_step {ready : List Int} {p : Nat} {y : Int} (h : ready[p]? = some y) (d : Int) : (ready.take (p + 1)).filter (· ≠ d) = (ready.take p).filter (· ≠ d) ++ (if y = d then [] else [y]) := by
  rw [List.take_add_one, h, List.filter_append]
  by_cases hy : y = d <;> simp [hy]

set_option maxRecDepth 100000 in
set_option maxHeartbeats 8000000 in
theorem schedRuns_walk (v m0 : Int) (a1 : Option Addr) (c1 : Nat) (D : List Int) (w : World) (h1 : Rd w 1 a1 D.length c1 (intsV D)) (hw1 : WfI D) :
    Calls Try.prog 7 #[.int .i64 v, .int .i64 m0, .slice a1 D.length c1] w (Yes w) := by
  by_cases hbad : v < 1 ∨ 16 < v ∨ m0 < 0 ∨ 20 < m0 ∨ (60 : Int) < D.length
  · clear h1 hw1
    by_cases b1 : v < 1
    · clear hbad
      go_enter Try.func7, Try.ntmps7
      go_wp2_with (go_at_call 9; refine (awake_any _).mono ?_; rintro e w4 ⟨rfl, hb⟩; have H4 := Lib.hid hb; clear hb)
      go_ret
      exact ⟨rfl, H4.out⟩
    by_cases b2 : 16 < v
    · clear hbad
      go_enter Try.func7, Try.ntmps7
      go_wp2_with (go_at_call 9; refine (awake_any _).mono ?_; rintro e w4 ⟨rfl, hb⟩; have H4 := Lib.hid hb; clear hb)
      go_ret
      exact ⟨rfl, H4.out⟩
    by_cases b3 : m0 < 0
    · clear hbad
      go_enter Try.func7, Try.ntmps7
      go_wp2_with (go_at_call 9; refine (awake_any _).mono ?_; rintro e w4 ⟨rfl, hb⟩; have H4 := Lib.hid hb; clear hb)
      go_ret
      exact ⟨rfl, H4.out⟩
    by_cases b4 : 20 < m0
    · clear hbad
      go_enter Try.func7, Try.ntmps7
      go_wp2_with (go_at_call 9; refine (awake_any _).mono ?_; rintro e w4 ⟨rfl, hb⟩; have H4 := Lib.hid hb; clear hb)
      go_ret
      exact ⟨rfl, H4.out⟩
    have b5 : (60 : Int) < D.length := by omega
    clear hbad
    go_enter Try.func7, Try.ntmps7
    go_wp2_with (go_at_call 9; refine (awake_any _).mono ?_; rintro e w4 ⟨rfl, hb⟩; have H4 := Lib.hid hb; clear hb)
    go_ret
    exact ⟨rfl, H4.out⟩
  obtain ⟨n, rfl⟩ : ∃ n : Nat, v = (n : Int) := ⟨v.toNat, by omega⟩
  obtain ⟨m, rfl⟩ : ∃ m : Nat, m0 = (m : Int) := ⟨m0.toNat, by omega⟩
  have HN := Lib.hid (fun w => new_any n (by omega) (by omega) w)
  have n1 : (1 : Int) ≤ (n : Int) := by omega
  have n16 : (n : Int) ≤ 16 := by omega
  have m0' : (0 : Int) ≤ (m : Int) := by omega
  have m20 : (m : Int) ≤ 20 := by omega
  have d60 : (D.length : Int) ≤ 60 := by omega
  obtain ⟨i0, hii, hz0, hz1, hz2⟩ := info_parts Try.infoInt
  obtain ⟨M, hM, hmk⟩ := make_ints m (by omega)
  have HM := Lib.hid hM
  have HD := Lib.hid h1
  have HW := Lib.hid hw1
  clear hbad h1 hw1 hM
  go_enter Try.func7, Try.ntmps7
  go_wp2_with (first
    | (go_at_call 8; refine (HN.out _).mono ?_; rintro e w1 ⟨g, sb, chs, rfl, hb, hl, h1, h2, h3⟩; have HC : Hid (chs.length = n) := Lib.hid (by have := hb.len; simpa using this.symm); have H1 := Lib.hid (New.mk hb hl h1 h2 h3); clear hb hl h1 h2 h3))
  go_loopw [9, 10] (fun s i wr => ∃ (k : Nat) (a : Option Addr) (c : Nat), k ≤ m ∧ i = .int .i64 k ∧ s = .slice a k c ∧ Hid (Loc 1 w1 wr a k c (intsV (rngI k)))) (fun _ i _ => m - (intOf i).toNat)
  case atStart => exact ⟨0, none, 0, by omega, rfl, rfl, Lib.hid (Loc.start 1 w1 w1 (Below.refl _ _))⟩
  case round =>
    obtain ⟨k, a, c, hk, rfl, rfl, HL⟩ := hrel
    obtain ⟨wo, rfl⟩ : ∃ wo : World, wo = wr := ⟨_, rfl⟩
    by_cases hlt : k < m
    · have k1 : (k : Int) < (m : Int) := by omega
      go_wp2_with (at_builtin; refine wpList_app_loc rfl (.tmp 58) (.tmp 60) 22 rfl 3 i0 (.int .i64 0) 1 8 Try.underlying22 hii hz0 hz1 hz2 rfl (by decide) w1 a k c (intsV (rngI k)) rfl (HL.out.later (al1 wo _)) (some ⟨wo.heap.size, 0, none⟩) 1 1 [.int .i64 (k : Int)] rfl (Rd.oneNew wo (.int .i64 (k : Int)) 3 rfl) (k + 1) (intsV (rngI k ++ [(k : Int)])) rfl (intsV_append (rngI k) [(k : Int)]).symm (by unfold maxLen; omega) (by omega) ?_; intro a2 c2 w2 hl2; have H2 := Lib.hid hl2; clear hl2)
      go_roundw
      case rel => exact ⟨k + 1, a2, c2, by omega, by go_num, rfl, Lib.hid (by rw [rngI_succ]; exact H2.out)⟩
      case measure => simp [intOf]; omega
    · obtain rfl : k = m := by omega
      have HRn : Hid (Rn w (wo.alloc (.cells M 3)) g sb chs n (List.replicate n none) wo.heap.size k (List.replicate k 0) a c (rngI k)) := Lib.hid (Rn.begin_ (H1.out.later HL.out.low) HC.out (fun o ho i hi => by rw [(List.mem_replicate.1 ho).2] at hi; cases hi) (by rw [rngI_length]; exact HL.out.rd) HM.out _)
      have HPn : Hid (Pn (List.replicate n none) n k (rngI k) 0 0 (List.replicate k 0)) := Lib.hid (by
        have hb : busyL (List.replicate n none) n = [] := by
          have := busy_all (List.replicate n (none : Option Int))
          rw [List.length_replicate] at this
          rw [this, List.filterMap_eq_nil_iff]
          intro o ho
          rw [(List.mem_replicate.1 ho).2]
          rfl
        refine ⟨List.length_replicate .., rngI_nodup k, fun x hx => (rngI_mem k x).1 hx, by rw [rngI_length]; omega, by rw [hb]; exact List.nodup_nil, fun x hx => (by rw [hb] at hx; cases hx), by rw [hb]; rfl, List.length_replicate .., fun i hi => ?_⟩
        rw [List.getElem?_replicate, if_pos hi, if_pos ⟨(rngI_mem k _).2 (by omega), by rw [hb]; exact List.not_mem_nil⟩])
      have HRL := Lib.hid (rngI_length k)
      clear hk hlt
      go_wp2
      generalize wo.heap.size = B at *
      generalize wo.alloc (.cells M 3) = W1 at *
      go_loopw [9, 12, 13] (fun s d q wr => ∃ (done acts : Nat) (a : Option Addr) (c : Nat) (ready : List Int), done ≤ k ∧ acts ≤ 2 * k ∧ d = .int .i64 done ∧ q = .int .i64 acts ∧ s = .slice a ready.length c ∧ Hid (∃ st S, Rn w wr g sb chs n st B k S a c ready ∧ Pn st n k ready done acts S)) (fun _ _ q _ => 2 * k + 1 - (intOf q).toNat)
      case atStart => exact ⟨0, 0, a, c, rngI k, by omega, by omega, rfl, rfl, by rw [HRL.out], Lib.hid ⟨_, _, HRn.out, HPn.out⟩⟩
      case round =>
        clear HRn HPn HRL HL H1 hmk HM
        obtain ⟨done, acts, a, c, ready, hdk, hak, rfl, rfl, rfl, HS⟩ := hrel
        obtain ⟨wp, rfl⟩ : ∃ wp : World, wp = wr := ⟨_, rfl⟩
        obtain ⟨st, S, hR, hP⟩ := HS.out
        have HR := Lib.hid hR
        have HP := Lib.hid hP
        have hcnt := hP.cnt
        clear hR hP HS
        by_cases hdm : done < k
        · have hne : ready ≠ [] := by rintro rfl; simp at hcnt; omega
          have hwr : WfI ready := fun x hx => by have := HP.out.rg x hx; exact wf_small this.1 (by omega)
          have hal := acts_len st n false ready
          have hml := mul_small (n := n) (k := ready.length) (by omega) (by omega)
          have hl1 := acts_some (st := st) (n := n) (by omega) hne
          have HMA := Lib.hid (fun x hx => mem_acts (st := st) (n := n) (ready := ready) (x := x) hx)
          have HA := Lib.hid (fun W h hr => acts_k g sb chs st false a c ready.length n (actsL st n false ready).length ready (actsL st n false ready) rfl HR.out.chl rfl rfl (by omega) W h hr HR.out.wf hwr)
          have HNE := Lib.hid hne
          generalize actsL st n false ready = L at *
          have hll : L.length ≤ 1000 := by omega
          clear hal hml hne hwr
          go_upto_region 17 with (go_at_call 11; refine (HA.out _ HR.out.new.brd HR.out.rd).mono ?_; rintro e w2 ⟨a2, c2, rfl, hr, hb, hf⟩; have H2 := Lib.hid (And.intro (HR.out.turn hb hf HR.out.wf) hr); clear hr hb hf)
          by_cases hq : acts < D.length
          · obtain ⟨z, hzD⟩ : ∃ z, D[acts]? = some z := ⟨_, List.getElem?_eq_getElem hq⟩
            have hz := HW.out z (List.mem_of_getElem? hzD)
            obtain ⟨bz, oz, rfl, cz⟩ := ints_at (HD.out.later H2.out.1.new.low) hzD
            have q0 : (0 : Int) ≤ (acts : Int) := by omega
            have q1 : (acts : Int) < (D.length : Int) := by omega
            clear hzD
            go_upto_region 19 with (fail)
            clear cz
            obtain ⟨x, hx, hp⟩ := pick_ex z hz L hl1 (by omega)
            have HPK := Lib.hid hp
            rcases HMA.out x hx with ⟨i, d, hi, hlk, hd, hb, rfl⟩ | ⟨i, d, hi, hlk, rfl⟩
            · obtain ⟨j, rfl, hj, hs0, hns, hP2⟩ := HP.out.start hi hlk hd hb
              have HP2 := Lib.hid hP2
              have HS0 := Lib.hid hs0
              have hin : inB st (i : Int) = true := by unfold inB; have := HP.out.len; rw [decide_eq_true_eq]; omega
              have HG := Lib.hid (fun W h => give_ok g sb chs st (i : Int) (j : Int) hin hlk hns W h)
              simp only [Int.toNat_natCast] at HG
              have hwf2 : WfO (st.set i (some (j : Int))) := HR.out.wf.set _ _ (fun y hy => by cases hy; exact wf_small (by omega) (by omega))
              have HWF := Lib.hid hwf2
              have j0 : (0 : Int) ≤ (j : Int) := by omega
              have j1 : (j : Int) < (k : Int) := by omega
              have jq : (acts : Int) ≤ 2 * (k : Int) := by omega
              clear hx hp hi hlk hd hb hs0 hns hP2 hcnt hin hwf2 hz hl1 hll
              go_wp2_with (first
                | (go_at_call 14; refine (HPK.out _ _ _ H2.out.2).mono ?_; rintro e w3 ⟨rfl, hb⟩; have H3 := Lib.hid (H2.out.1.later hb); have s0 := H3.out.cells j 0 HS0.out; have bl3 : B < w3.heap.size := H3.out.bl; clear hb)
                | (go_at_call 10; refine (HG.out _ (H3.out.later (al1 w3 _)).new.brd).mono ?_; rintro e w5 ⟨rfl, hb, hf⟩; have H5 := Lib.hid ((H3.out.later (al1 w3 _)).turn hb hf HWF.out); obtain ⟨y0, y1, y2⟩ := (OC.made w3 2 (i : Int) (j : Int) 35).fr (H3.out.later (al1 w3 _)).new.brd hf; clear hb hf s0 bl3; have s0 := H5.out.cells j 0 HS0.out; have f0 := H5.out.froz j hj))
              go_roundw
              case rel => exact ⟨done, acts + 1, a, c, ready, by omega, HP2.out.few, rfl, by go_num, rfl, Lib.hid ⟨_, _, H5.out.put hj 1, HP2.out⟩⟩
              case measure => simp [intOf]; omega
            · obtain ⟨⟨j, rfl, hj⟩, hP2⟩ := HP.out.finish hi hlk
              have HP2 := Lib.hid hP2
              have HG := Lib.hid (fun W h => take_some g sb chs st (i : Int) (j : Int) hlk W h)
              simp only [Int.toNat_natCast] at HG
              have hwf2 : WfO (st.set i none) := HR.out.wf.set _ _ (fun y hy => by cases hy)
              have HWF := Lib.hid hwf2
              have j0 : (0 : Int) ≤ (j : Int) := by omega
              have j1 : (j : Int) < (k : Int) := by omega
              have jq : (acts : Int) ≤ 2 * (k : Int) := by omega
              have hrl : ready.length ≤ 20 := by omega
              clear hx hp hi hlk hP2 hcnt hwf2 hz hl1 hll
              go_wp2_with (first
                | (go_at_call 14; refine (HPK.out _ _ _ H2.out.2).mono ?_; rintro e w3 ⟨rfl, hb⟩; have H3 := Lib.hid (H2.out.1.later hb); clear hb)
                | (go_at_call 17; refine (HG.out _ (H3.out.later (al1 w3 _)).new.brd).mono ?_; rintro e w5 ⟨rfl, hb, hf⟩; have H5 := Lib.hid ((H3.out.later (al1 w3 _)).turn hb hf HWF.out); obtain ⟨y0, y1, y2⟩ := (OC.made w3 3 (i : Int) (j : Int) 35).fr (H3.out.later (al1 w3 _)).new.brd hf; clear hb hf))
              clear y0 y1 y2
              go_loopw [20, 21] (fun s i wr => ∃ (p : Nat) (al : Option Addr) (cl : Nat), p ≤ ready.length ∧ i = .int .i64 p ∧ s = .slice al ((ready.take p).filter (· ≠ (j : Int))).length cl ∧ Hid (Loc 1 w5 wr al ((ready.take p).filter (· ≠ (j : Int))).length cl (intsV ((ready.take p).filter (· ≠ (j : Int)))))) (fun _ i _ => ready.length - (intOf i).toNat)
              case atStart => exact ⟨0, none, 0, by omega, rfl, rfl, Lib.hid (Loc.start 1 w5 w5 (Below.refl _ _))⟩
              case round =>
                obtain ⟨p, al, cl, hp, rfl, rfl, HLp⟩ := hrel
                obtain ⟨wq, rfl⟩ : ∃ wq : World, wq = wr := ⟨_, rfl⟩
                have hfl : ((ready.take p).filter (· ≠ (j : Int))).length ≤ 20 := Nat.le_trans (List.length_filter_le _ _) (by rw [List.length_take]; omega)
                by_cases hpr : p < ready.length
                · obtain ⟨y, hy⟩ : ∃ y, ready[p]? = some y := ⟨_, List.getElem?_eq_getElem hpr⟩
                  have HF := Lib.hid (filt_step hy (j : Int))
                  obtain ⟨b3, o3, rfl, z0⟩ := ints_at (H5.out.rd.later HLp.out.low) hy
                  have p0 : (0 : Int) ≤ (p : Int) := by omega
                  have p1 : (p : Int) < (ready.length : Int) := by omega
                  generalize hT2 : (ready.take (p + 1)).filter (· ≠ (j : Int)) = T2 at HF
                  have HT2 := Lib.hid hT2
                  clear hT2
                  generalize (ready.take p).filter (· ≠ (j : Int)) = T1 at *
                  clear hy
                  by_cases hyj : y = (j : Int)
                  · have HE : Hid (T2 = T1) := Lib.hid (by rw [HF.out, if_pos hyj, List.append_nil])
                    subst hyj
                    go_wp2
                    go_roundw
                    case rel => exact ⟨p + 1, al, cl, by omega, by go_num, by rw [HT2.out, HE.out], by rw [HT2.out, HE.out]; exact HLp⟩
                    case measure => simp [intOf]; omega
                  · have HE : Hid (T2 = T1 ++ [y]) := Lib.hid (by rw [HF.out, if_neg hyj])
                    go_wp2_with (at_builtin; refine wpList_app_loc rfl (.tmp 162) (.tmp 167) 22 rfl 3 i0 (.int .i64 0) 1 8 Try.underlying22 hii hz0 hz1 hz2 rfl (by decide) w5 al T1.length cl (intsV T1) rfl (HLp.out.later (al1 wq _)) (some ⟨wq.heap.size, 0, none⟩) 1 1 [.int .i64 y] rfl (Rd.oneNew wq (.int .i64 y) 3 rfl) (T1.length + 1) (intsV (T1 ++ [y])) rfl (intsV_append T1 [y]).symm (by unfold maxLen; omega) (by omega) ?_; intro a7 c7 w7 hl7; have H7 := Lib.hid hl7; clear hl7)
                    go_roundw
                    case rel => exact ⟨p + 1, a7, c7, by omega, by go_num, by rw [HT2.out, HE.out, List.length_append]; rfl, Lib.hid (by rw [HT2.out, HE.out, List.length_append]; exact H7.out)⟩
                    case measure => simp [intOf]; omega
                · obtain rfl : p = ready.length := by omega
                  rw [List.take_length] at *
                  go_wp2
                  go_roundw
                  case rel => exact ⟨done + 1, acts + 1, al, cl, ready.filter (· ≠ (j : Int)), by omega, HP2.out.few, by go_num, by go_num, rfl, Lib.hid ⟨_, _, Rn.swap H5.out (Nat.le_refl _) HLp.out.low (H5.out.later HLp.out.low) HLp.out, HP2.out⟩⟩
                  case measure => simp [intOf]; omega
          · obtain ⟨z, rfl⟩ : ∃ z : Int, z = 0 := ⟨_, rfl⟩
            have hz : (Lit.int .i64 0).wf = true := by decide
            have q1 : ¬ (acts : Int) < (D.length : Int) := by omega
            go_upto_region 19 with (fail)
            obtain ⟨x, hx, hp⟩ := pick_ex 0 hz L hl1 (by omega)
            have HPK := Lib.hid hp
            rcases HMA.out x hx with ⟨i, d, hi, hlk, hd, hb, rfl⟩ | ⟨i, d, hi, hlk, rfl⟩
            · obtain ⟨j, rfl, hj, hs0, hns, hP2⟩ := HP.out.start hi hlk hd hb
              have HP2 := Lib.hid hP2
              have HS0 := Lib.hid hs0
              have hin : inB st (i : Int) = true := by unfold inB; have := HP.out.len; rw [decide_eq_true_eq]; omega
              have HG := Lib.hid (fun W h => give_ok g sb chs st (i : Int) (j : Int) hin hlk hns W h)
              simp only [Int.toNat_natCast] at HG
              have hwf2 : WfO (st.set i (some (j : Int))) := HR.out.wf.set _ _ (fun y hy => by cases hy; exact wf_small (by omega) (by omega))
              have HWF := Lib.hid hwf2
              have j0 : (0 : Int) ≤ (j : Int) := by omega
              have j1 : (j : Int) < (k : Int) := by omega
              have jq : (acts : Int) ≤ 2 * (k : Int) := by omega
              clear hx hp hi hlk hd hb hs0 hns hP2 hcnt hin hwf2 hz hl1 hll
              go_wp2_with (first
                | (go_at_call 14; refine (HPK.out _ _ _ H2.out.2).mono ?_; rintro e w3 ⟨rfl, hb⟩; have H3 := Lib.hid (H2.out.1.later hb); have s0 := H3.out.cells j 0 HS0.out; have bl3 : B < w3.heap.size := H3.out.bl; clear hb)
                | (go_at_call 10; refine (HG.out _ (H3.out.later (al1 w3 _)).new.brd).mono ?_; rintro e w5 ⟨rfl, hb, hf⟩; have H5 := Lib.hid ((H3.out.later (al1 w3 _)).turn hb hf HWF.out); obtain ⟨y0, y1, y2⟩ := (OC.made w3 2 (i : Int) (j : Int) 35).fr (H3.out.later (al1 w3 _)).new.brd hf; clear hb hf s0 bl3; have s0 := H5.out.cells j 0 HS0.out; have f0 := H5.out.froz j hj))
              go_roundw
              case rel => exact ⟨done, acts + 1, a, c, ready, by omega, HP2.out.few, rfl, by go_num, rfl, Lib.hid ⟨_, _, H5.out.put hj 1, HP2.out⟩⟩
              case measure => simp [intOf]; omega
            · obtain ⟨⟨j, rfl, hj⟩, hP2⟩ := HP.out.finish hi hlk
              have HP2 := Lib.hid hP2
              have HG := Lib.hid (fun W h => take_some g sb chs st (i : Int) (j : Int) hlk W h)
              simp only [Int.toNat_natCast] at HG
              have hwf2 : WfO (st.set i none) := HR.out.wf.set _ _ (fun y hy => by cases hy)
              have HWF := Lib.hid hwf2
              have j0 : (0 : Int) ≤ (j : Int) := by omega
              have j1 : (j : Int) < (k : Int) := by omega
              have jq : (acts : Int) ≤ 2 * (k : Int) := by omega
              have hrl : ready.length ≤ 20 := by omega
              clear hx hp hi hlk hP2 hcnt hwf2 hz hl1 hll
              go_wp2_with (first
                | (go_at_call 14; refine (HPK.out _ _ _ H2.out.2).mono ?_; rintro e w3 ⟨rfl, hb⟩; have H3 := Lib.hid (H2.out.1.later hb); clear hb)
                | (go_at_call 17; refine (HG.out _ (H3.out.later (al1 w3 _)).new.brd).mono ?_; rintro e w5 ⟨rfl, hb, hf⟩; have H5 := Lib.hid ((H3.out.later (al1 w3 _)).turn hb hf HWF.out); obtain ⟨y0, y1, y2⟩ := (OC.made w3 3 (i : Int) (j : Int) 35).fr (H3.out.later (al1 w3 _)).new.brd hf; clear hb hf))
              clear y0 y1 y2
              go_loopw [20, 21] (fun s i wr => ∃ (p : Nat) (al : Option Addr) (cl : Nat), p ≤ ready.length ∧ i = .int .i64 p ∧ s = .slice al ((ready.take p).filter (· ≠ (j : Int))).length cl ∧ Hid (Loc 1 w5 wr al ((ready.take p).filter (· ≠ (j : Int))).length cl (intsV ((ready.take p).filter (· ≠ (j : Int)))))) (fun _ i _ => ready.length - (intOf i).toNat)
              case atStart => exact ⟨0, none, 0, by omega, rfl, rfl, Lib.hid (Loc.start 1 w5 w5 (Below.refl _ _))⟩
              case round =>
                obtain ⟨p, al, cl, hp, rfl, rfl, HLp⟩ := hrel
                obtain ⟨wq, rfl⟩ : ∃ wq : World, wq = wr := ⟨_, rfl⟩
                have hfl : ((ready.take p).filter (· ≠ (j : Int))).length ≤ 20 := Nat.le_trans (List.length_filter_le _ _) (by rw [List.length_take]; omega)
                by_cases hpr : p < ready.length
                · obtain ⟨y, hy⟩ : ∃ y, ready[p]? = some y := ⟨_, List.getElem?_eq_getElem hpr⟩
                  have HF := Lib.hid (filt_step hy (j : Int))
                  obtain ⟨b3, o3, rfl, z0⟩ := ints_at (H5.out.rd.later HLp.out.low) hy
                  have p0 : (0 : Int) ≤ (p : Int) := by omega
                  have p1 : (p : Int) < (ready.length : Int) := by omega
                  generalize hT2 : (ready.take (p + 1)).filter (· ≠ (j : Int)) = T2 at HF
                  have HT2 := Lib.hid hT2
                  clear hT2
                  generalize (ready.take p).filter (· ≠ (j : Int)) = T1 at *
                  clear hy
                  by_cases hyj : y = (j : Int)
                  · have HE : Hid (T2 = T1) := Lib.hid (by rw [HF.out, if_pos hyj, List.append_nil])
                    subst hyj
                    go_wp2
                    go_roundw
                    case rel => exact ⟨p + 1, al, cl, by omega, by go_num, by rw [HT2.out, HE.out], by rw [HT2.out, HE.out]; exact HLp⟩
                    case measure => simp [intOf]; omega
                  · have HE : Hid (T2 = T1 ++ [y]) := Lib.hid (by rw [HF.out, if_neg hyj])
                    go_wp2_with (at_builtin; refine wpList_app_loc rfl (.tmp 162) (.tmp 167) 22 rfl 3 i0 (.int .i64 0) 1 8 Try.underlying22 hii hz0 hz1 hz2 rfl (by decide) w5 al T1.length cl (intsV T1) rfl (HLp.out.later (al1 wq _)) (some ⟨wq.heap.size, 0, none⟩) 1 1 [.int .i64 y] rfl (Rd.oneNew wq (.int .i64 y) 3 rfl) (T1.length + 1) (intsV (T1 ++ [y])) rfl (intsV_append T1 [y]).symm (by unfold maxLen; omega) (by omega) ?_; intro a7 c7 w7 hl7; have H7 := Lib.hid hl7; clear hl7)
                    go_roundw
                    case rel => exact ⟨p + 1, a7, c7, by omega, by go_num, by rw [HT2.out, HE.out, List.length_append]; rfl, Lib.hid (by rw [HT2.out, HE.out, List.length_append]; exact H7.out)⟩
                    case measure => simp [intOf]; omega
                · obtain rfl : p = ready.length := by omega
                  rw [List.take_length] at *
                  go_wp2
                  go_roundw
                  case rel => exact ⟨done + 1, acts + 1, al, cl, ready.filter (· ≠ (j : Int)), by omega, HP2.out.few, by go_num, by go_num, rfl, Lib.hid ⟨_, _, Rn.swap H5.out (Nat.le_refl _) HLp.out.low (H5.out.later HLp.out.low) HLp.out, HP2.out⟩⟩
                  case measure => simp [intOf]; omega
        · have HO := Lib.hid (HP.out.over hdm)
          obtain rfl : acts = 2 * k := HO.out.1
          obtain rfl : done = k := by omega
          have HIB := Lib.hid (fun W h => idleB_uni g sb chs n st HR.out.chl (idleL st n) rfl n HO.out.2.1.symm W h)
          have HA := Lib.hid (fun W h => acts_k g sb chs st false none 0 0 n 0 [] [] rfl HR.out.chl HO.out.2.2 rfl (by omega) W h (Rd.nilSlice W 1) HR.out.wf (fun _ h => by cases h))
          clear hcnt hdm HO hak
          go_wp2_with (first
            | (go_at_call 13; refine (HIB.out _ HR.out.new.brd).mono ?_; rintro e w5 ⟨a5, c5, rfl, hr, hb, hf⟩; have H5 := Lib.hid (HR.out.turn hb hf HR.out.wf); clear hb hf hr)
            | (go_at_call 11; refine (HA.out _ H5.out.new.brd).mono ?_; rintro e w6 ⟨a6, c6, rfl, hr, hb, hf⟩; have H6 := Lib.hid (H5.out.turn hb hf H5.out.wf); clear hr hb hf)
            | (go_at_call 9; refine (awake_any _).mono ?_; rintro e w7 ⟨rfl, hb⟩; have H7 := Lib.hid (H6.out.new.low.trans (hb.mono H6.out.new.low.size)); clear hb))
          go_ret
          exact ⟨rfl, H7.out⟩
end Go.Proofs.Ytpfcghigfkhimaa
