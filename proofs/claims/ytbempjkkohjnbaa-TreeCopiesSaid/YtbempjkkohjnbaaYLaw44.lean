/- Joined: Law44. -/
import Derived.Test.YtbempjkkohjnbaaYLaw43
import Derived.Test.YtbempjkkohjnbaaYLaw21
import Derived.Test.YtbempjkkohjnbaaYLaw32
/- The laws of package tree: TreeCopies. -/
namespace Go.Proofs.Ytbempjkkohjnbaa
open Go.RowKit Tr
open Ky (less)
theorem perm3' {A C D : Rs} : [A, C, D].Perm [D, A, C] := (List.Perm.cons A (.swap D C [])).trans (.swap D A [C])
theorem perm312 {A C D : Rs} : [A, C, D].Perm [D, C, A] := (List.reverse_perm [A, C, D]).symm
set_option maxHeartbeats 8000000 in
set_option maxRecDepth 100000 in
theorem treeCopies_walk (order : Int) (a : Option Addr) (c : Nat) (l : List TOp) (ma : Option Addr) (mc : Nat) (m : List TOp) (w : World) (hr : Rd w 3 a l.length c (topsV l)) (hok : ∀ x ∈ l, OkTop x) (hrm : Rd w 3 ma m.length mc (topsV m)) (hokm : ∀ x ∈ m, OkTop x) :
    Calls Try.prog 14 #[.int .i64 order, .slice a l.length c, .slice ma m.length mc] w (Yes w) := by
  have hcap := hr.cap
  have hle := hr.le
  have hcapm := hrm.cap
  have hlem := hrm.le
  unfold maxLen at hcap hcapm
  have HA := Lib.hid (fun W => awake4_any W)
  have HF := Lib.hid (fun V (h : Below w.heap.size w V) => few_any a c l (by omega) hok V (hr.later h))
  have HG := Lib.hid (fun V (h : Below w.heap.size w V) => few_any ma mc m (by omega) hokm V (hrm.later h))
  have HR := Lib.hid hr
  have HRM := Lib.hid hrm
  obtain ⟨M, hM⟩ : ∃ M, m.length = M := ⟨_, rfl⟩
  have HMl := Lib.hid hM
  rw [hM] at HG HRM hlem ⊢
  have tok1 : True := trivial
  have tok2 : True := trivial
  clear hr hok hrm hokm hM
  by_cases ho : order < 2 ∨ 16 < order
  · have HN := Lib.hid (newT_bad order ho w)
    clear ho
    go_enter Try.func14, Try.ntmps14
    go_wp2_with (first
      | (go_at_call 17; refine HN.out.mono ?_; rintro e V ⟨rfl, rfl⟩)
      | (go_at_call 18; refine (HA.out _).mono ?_; rintro e V9 ⟨rfl, hb⟩; have H9 := Lib.hid ((Below.refl w.heap.size w).trans (hb.mono (Below.refl w.heap.size w).size)); clear hb))
    go_ret
    exact ⟨rfl, H9.out⟩
  obtain ⟨o, rfl⟩ : ∃ o : Nat, order = o := ⟨order.toNat, by omega⟩
  have HN := Lib.hid (own_new o (by omega) (by omega) (Own.nil w))
  clear ho
  by_cases hf : fewL l
  case neg =>
    have hff : decide (fewL l) = false := by simpa using hf
    rw [hff] at HF
    clear hf hff
    go_enter Try.func14, Try.ntmps14
    go_wp2_with (first
      | (go_at_call 17; refine HN.out.mono ?_; rintro e V1 ⟨b, rfl, h1⟩; have H1 := Lib.hid h1; clear h1)
      | (go_at_call 29; have _t := tok1; refine (HF.out _ H1.out.low).mono ?_; rintro e V ⟨rfl, rfl⟩; clear tok1 _t)
      | (go_at_call 18; refine (HA.out _).mono ?_; rintro e V9 ⟨rfl, hb⟩; have H9 := Lib.hid ((H1.out.low).trans (hb.mono (H1.out.low).size)); clear hb))
    go_ret
    exact ⟨rfl, H9.out⟩
  have hff : decide (fewL l) = true := by simpa using hf
  have hl := hf.2
  rw [hff] at HF
  clear hf hff
  by_cases hf : fewL m
  case neg =>
    have hff : decide (fewL m) = false := by simpa using hf
    rw [hff] at HG
    clear hf hff
    go_enter Try.func14, Try.ntmps14
    go_wp2_with (first
      | (go_at_call 17; refine HN.out.mono ?_; rintro e V1 ⟨b, rfl, h1⟩; have H1 := Lib.hid h1; clear h1)
      | (go_at_call 29; have _t := tok1; refine (HF.out _ H1.out.low).mono ?_; rintro e V ⟨rfl, rfl⟩; clear tok1 _t)
      | (go_at_call 29; refine (HG.out _ H1.out.low).mono ?_; rintro e V ⟨rfl, rfl⟩)
      | (go_at_call 18; refine (HA.out _).mono ?_; rintro e V9 ⟨rfl, hb⟩; have H9 := Lib.hid ((H1.out.low).trans (hb.mono (H1.out.low).size)); clear hb))
    go_ret
    exact ⟨rfl, H9.out⟩
  have hff : decide (fewL m) = true := by simpa using hf
  have hml := hf.2
  rw [hff] at HG
  rw [HMl.out] at hml
  clear hf hff
  go_enter Try.func14, Try.ntmps14
  go_wp2_with (first
    | (go_at_call 17; refine HN.out.mono ?_; rintro e V1 ⟨b, rfl, h1⟩; have H1 := Lib.hid h1; have H0 := Lib.hid (fun t => (own_lst0 h1 t).swap); clear h1)
    | (go_at_call 29; have _t := tok1; refine (HF.out _ H1.out.low).mono ?_; rintro e V ⟨rfl, rfl⟩; clear tok1 _t)
    | (go_at_call 29; refine (HG.out _ H1.out.low).mono ?_; rintro e V ⟨rfl, rfl⟩))
  obtain ⟨r, hrr⟩ : ∃ r, V1.heap.size = r := ⟨_, rfl⟩
  rw [hrr] at H0 ⊢
  clear hrr
  go_loopw [10] (fun i wr => ∃ (j : Nat), j ≤ l.length ∧ i = .int .i64 j ∧ Hid (Own w.heap.size w [TreeR b o (runL (l.take j)), LstR r (runL (l.take j))] wr)) (fun i _ => l.length - (intOf i).toNat)
  case atStart => exact ⟨0, by omega, rfl, Lib.hid (H0.out _)⟩
  case round =>
    obtain ⟨j, hj, rfl, HJ⟩ := hrel
    have k0 : (0 : Int) ≤ (j : Int) := by omega
    by_cases hlt : j < l.length
    · obtain ⟨⟨ask, key, v⟩, hx⟩ : ∃ x, l[j]? = some x := ⟨_, List.getElem?_eq_getElem hlt⟩
      obtain ⟨lb, lo, rfl, x0, x1, x2⟩ := top_at (HR.out.later HJ.out.low) hx
      have HD := Lib.hid (own_does ask key v HJ.out (by have := run_len (l.take j); rw [List.length_take] at this; omega))
      have HE := Lib.hid (run_succ hx)
      have k1 : (j : Int) < (l.length : Int) := by omega
      clear hx
      go_wp2_with (go_at_call 30; refine HD.out.mono ?_; rintro e V2 ⟨rfl, h2⟩; have H2 := Lib.hid h2; clear h2)
      go_roundw
      case rel => exact ⟨j + 1, by omega, by go_num, Lib.hid (by rw [HE.out]; exact H2.out)⟩
      case measure => simp [intOf]; omega
    · obtain rfl : j = l.length := by omega
      have k1 : ¬ (l.length : Int) < (l.length : Int) := by omega
      have HLn : Hid ((runL l).length ≤ 200) := Lib.hid (by have := run_len l; omega)
      rw [List.take_length] at HJ
      obtain ⟨L, hL⟩ : ∃ L, runL l = L := ⟨_, rfl⟩
      rw [hL] at HJ HLn
      obtain ⟨hh, g, hg, hO⟩ := own_treeG HJ.out
      have HCp := Lib.hid (own_copyG hO)
      have HLv : Hid (∀ g2, Like hh g g2 → flat hh g2 = L ∧ Tr.lv hh [g2] = Tr.lv hh [g]) := Lib.hid (fun g2 hlk => ⟨by rw [hlk.flat, hg], LikeL.lv (h := hh) (A := [g]) (B := [g2]) ⟨hlk, trivial⟩⟩)
      have HGl : Hid (flat hh g = L) := Lib.hid hg
      obtain ⟨S, hS⟩ : ∃ S, Tr.lv hh [g] = S := ⟨_, rfl⟩
      obtain ⟨NS, hNS⟩ : ∃ n, hh + 1 = n := ⟨_, rfl⟩
      have HSl : Hid (S.length = NS) := Lib.hid (by rw [← hS, ← hNS]; exact lv_len hh [g])
      have HSm := Lib.hid (fun (V : World) (b2 : Nat) (g2 : G) (h : Own w.heap.size w [TreeGR b2 o hh g2, TreeGR b o hh g, LstR r L] V) (e : flat hh g2 = L) => own_same ((own_treeR h e).perm (List.Perm.cons _ (.swap _ _ []))) (by have := HLn.out; omega))
      have HSh1 := Lib.hid (fun (V : World) (b2 : Nat) (g2 : G) (h : Own w.heap.size w [TreeGR b2 o hh g2, TreeGR b o hh g, LstR r L] V) => own_shapeG h.swap (by rw [HGl.out]; have := HLn.out; omega))
      have HSh2 := Lib.hid (fun (V : World) (b2 : Nat) (g2 : G) (h : Own w.heap.size w [TreeGR b2 o hh g2, TreeGR b o hh g, LstR r L] V) (e : flat hh g2 = L) => own_shapeG h (by rw [e]; have := HLn.out; omega))
      rw [hS, hNS] at HSh1
      rw [hNS] at HSh2
      rw [hS] at HLv
      have tok3 : True := trivial
      clear hL hg hO hS hNS
      go_wp2_with (first
        | (go_at_call 41; refine HCp.out.mono ?_; rintro e V2 ⟨b2, g2, rfl, q1, q2⟩; have HL2 := Lib.hid (HLv.out g2 q1); have H2 := Lib.hid q2; clear q1 q2)
        | (go_at_call 21; refine (HSm.out _ _ _ H2.out HL2.out.1).mono ?_; rintro e V3 ⟨rfl, hb⟩; have H3 := Lib.hid (H2.out.later hb); clear hb)
        | (go_at_call 23; have _t := tok3; refine (HSh1.out _ _ _ H3.out).mono ?_; rintro e V4 ⟨xa, xc, rfl, q1, hb⟩; have H4 := Lib.hid (And.intro (H3.out.later hb) q1); clear q1 hb tok3 _t)
        | (go_at_call 23; refine (HSh2.out _ _ _ H4.out.1 HL2.out.1).mono ?_; rintro e V5 ⟨ya, yc, rfl, q1, hb⟩; have H5 := Lib.hid (And.intro (H4.out.1.later hb) (And.intro (H4.out.2.later hb) q1)); clear q1 hb))
      have HXY : Hid (∀ V, Below V5.heap.size V5 V → Shp V3.heap.size V xa xc S ∧ Shp V4.heap.size V ya yc S) := Lib.hid (fun V hb => by
        obtain ⟨_, h1, h2⟩ := H5.out
        rw [HL2.out.2] at h2
        exact ⟨h1.later hb, h2.later hb⟩)
      have hSc : NS ≤ 9223372036854775807 := by have h := (HXY.out _ (Below.refl _ _)).1.cap; rw [HSl.out] at h; unfold maxLen at h; omega
      go_loopw [14] (fun i wr2 => ∃ (q : Nat), q ≤ NS ∧ i = .int .i64 q ∧ Hid (Below V5.heap.size V5 wr2)) (fun i _ => NS - (intOf i).toNat)
      case atStart => exact ⟨0, by omega, rfl, Lib.hid (Below.refl _ _)⟩
      case round =>
        obtain ⟨q, hq, rfl, HQ⟩ := hrel
        have i0 : (0 : Int) ≤ (q : Int) := by omega
        by_cases hqn : q < NS
        · have i1 : (q : Int) < (NS : Int) := by omega
          obtain ⟨x, hx⟩ : ∃ x, S[q]? = some x := ⟨_, List.getElem?_eq_getElem (by rw [HSl.out]; exact hqn)⟩
          obtain ⟨xb, xo, xi, xci, hxa, x1, x2⟩ := (HXY.out _ HQ.out).1.row hx
          obtain ⟨yb, yo, yi, yci, hya, y1, y2⟩ := (HXY.out _ HQ.out).2.row hx
          have hxc : x.length ≤ 9223372036854775807 := by have h := x2.cap; have h2 := x2.le; unfold maxLen at h; omega
          have HXr := Lib.hid x2
          have HYr := Lib.hid y2
          have HC := Lib.hid (And.intro x1 y1)
          obtain ⟨n, hn⟩ : ∃ n, x.length = n := ⟨_, rfl⟩
          have HNn := Lib.hid hn
          rw [hn] at x1 y1 HC hxc HXr HYr
          subst hxa
          subst hya
          clear hx x2 y2 hn
          go_wp2
          go_quiet (fail)
          go_wp2
          clear x1 y1
          have HCD : Hid (∀ V, Below wr.heap.size wr V → V.cell? ⟨xb, xo + q, none⟩ = some (.slice xi n xci) ∧ V.cell? ⟨yb, yo + q, none⟩ = some (.slice yi n yci)) := Lib.hid (fun V hb => ⟨old_cell HC.out.1 hb, old_cell HC.out.2 hb⟩)
          go_loopw [15] (fun i wr3 => ∃ (k : Nat), k ≤ n ∧ i = .int .i64 k ∧ Hid (Below wr.heap.size wr wr3)) (fun i _ => n - (intOf i).toNat)
          case atStart => exact ⟨0, by omega, rfl, Lib.hid (below_drewN _ _)⟩
          case round =>
            obtain ⟨k, hk, rfl, HK⟩ := hrel
            have j0 : (0 : Int) ≤ (k : Int) := by omega
            obtain ⟨x1, y1⟩ := HCD.out _ HK.out
            by_cases hkn : k < n
            · have j1 : (k : Int) < (n : Int) := by omega
              obtain ⟨mm, hmm⟩ : ∃ mm, x[k]? = some mm := ⟨_, List.getElem?_eq_getElem (by rw [HNn.out]; exact hkn)⟩
              obtain ⟨b3, o3, h3, z1⟩ := rdN_at (HXr.out.later HK.out) hmm
              obtain ⟨b4, o4, h4, z2⟩ := rdN_at (HYr.out.later HK.out) hmm
              subst h3
              subst h4
              clear hmm
              go_wp2
              go_quiet (fail)
              go_wp2
              go_roundw
              case rel => exact ⟨k + 1, by omega, by go_num, Lib.hid (HK.out.trans (below_drewN _ nq |>.mono HK.out.size))⟩
              case measure => simp [intOf]; omega
            · obtain rfl : k = n := by omega
              have j1 : ¬ (k : Int) < (k : Int) := by omega
              go_wp2
              go_roundw
              case rel => exact ⟨q + 1, by omega, by go_num, Lib.hid (HQ.out.trans (HK.out.mono HQ.out.size))⟩
              case measure => simp [intOf]; omega
        · obtain rfl : q = NS := by omega
          have i1 : ¬ (q : Int) < (q : Int) := by omega
          have HO6 : Hid (Own w.heap.size w [LstR r L, TreeR b2 o L, TreeR b o L] wr) := Lib.hid (by
            have h1 := H5.out.1.later HQ.out
            have h2 := own_treeR h1 HL2.out.1
            have h3 := (own_treeR h2.swap HGl.out).swap
            exact h3.perm perm3')
          obtain ⟨sa, sc, z0, HO7⟩ : ∃ sa sc, wr.cell? ⟨r, 0, none⟩ = some (.slice sa L.length sc) ∧ Hid (Own w.heap.size w [PairLR r wr.heap.size L L, TreeR b2 o L, TreeR b o L] (wr.alloc (.cells #[.slice sa L.length sc] 33))) := by
            obtain ⟨sa, sc, h1, h2⟩ := own_share HO6.out 33
            exact ⟨sa, sc, h1, Lib.hid h2⟩
          obtain ⟨s, hs⟩ : ∃ s, wr.heap.size = s := ⟨_, rfl⟩
          go_wp2
          rw [hs] at HO7
          try rw [hs]
          clear z0 hs
          go_loopw [17] (fun i wr2 => ∃ (q : Nat), q ≤ M ∧ i = .int .i64 q ∧ Hid (Own w.heap.size w [TreeR b2 o (runF L (m.take q)), PairLR r s L (runF L (m.take q)), TreeR b o L] wr2)) (fun i _ => M - (intOf i).toNat)
          case atStart => exact ⟨0, by omega, rfl, Lib.hid HO7.out.swap⟩
          case round =>
            obtain ⟨k, hk, rfl, HK⟩ := hrel
            have j0 : (0 : Int) ≤ (k : Int) := by omega
            by_cases hkm : k < M
            · obtain ⟨⟨ask, key, v⟩, hx⟩ : ∃ x, m[k]? = some x := ⟨_, List.getElem?_eq_getElem (by rw [HMl.out]; exact hkm)⟩
              obtain ⟨lb, lo, hma, x0, x1, x2⟩ := top_at (HRM.out.later HK.out.low) hx
              subst hma
              have HD := Lib.hid (own_doesP ask key v HK.out (by have h1 := runF_len (m.take k) L; rw [List.length_take] at h1; have := HLn.out; omega))
              have HE := Lib.hid (runF_succ (L := L) hx)
              have j1 : (k : Int) < (M : Int) := by omega
              clear hx
              go_wp2_with (go_at_call 30; refine HD.out.mono ?_; rintro e V7 ⟨rfl, h7⟩; have H7 := Lib.hid h7; clear h7)
              go_roundw
              case rel => exact ⟨k + 1, by omega, by go_num, Lib.hid (by rw [HE.out]; exact H7.out)⟩
              case measure => simp [intOf]; omega
            · obtain rfl : k = M := by omega
              have j1 : ¬ (k : Int) < (k : Int) := by omega
              rw [List.take_of_length_le (by rw [HMl.out]; exact Nat.le_refl _)] at HK
              have HS1 := Lib.hid (own_sameP1 (HK.out.perm perm312) (by have := HLn.out; omega))
              have HS2 := Lib.hid (fun V (hb : Below wr.heap.size wr V) => own_sameP2 (HK.out.later hb) (by have h1 := runF_len m L; have h2 := HMl.out; have := HLn.out; omega))
              have tok4 : True := trivial
              go_wp2_with (first
                | (go_at_call 21; have _t := tok4; refine HS1.out.mono ?_; rintro e V7 ⟨rfl, hb⟩; have H7 := Lib.hid hb; clear hb tok4 _t)
                | (go_at_call 21; refine (HS2.out _ H7.out).mono ?_; rintro e V8 ⟨rfl, hb⟩; have H8 := Lib.hid (H7.out.trans (hb.mono H7.out.size)); clear hb)
                | (go_at_call 18; refine (HA.out _).mono ?_; rintro e V9 ⟨rfl, hb⟩; have H9 := Lib.hid ((HK.out.later (H8.out.trans (hb.mono H8.out.size))).low); clear hb))
              go_ret
              exact ⟨rfl, H9.out⟩
end Go.Proofs.Ytbempjkkohjnbaa
