/- Joined: Law30. -/
import Derived.Test.YtbempjkkohjnbaaYLaw32
import Derived.Test.YtbempjkkohjnbaaYLaw27
/- The laws of package cursor: CursorStays. -/
namespace Go.Proofs.Ytbempjkkohjnbaa
open Go.RowKit Tr
open Ky (less)
set_option maxHeartbeats 8000000 in
set_option maxRecDepth 100000 in
theorem cursorStays_walk (a : Option Addr) (c : Nat) (l : List TOp) (s t : Str) (ma : Option Addr) (mc : Nat) (m : List TOp) (w : World) (hr : Rd w 3 a l.length c (topsV l)) (hok : ∀ x ∈ l, OkTop x) (hrm : Rd w 3 ma m.length mc (topsV m)) (hokm : ∀ x ∈ m, OkTop x) :
    Calls Try.prog 9 #[.slice a l.length c, .agg #[.string ⟨s.toArray⟩, .string ⟨t.toArray⟩], .slice ma m.length mc] w (Yes w) := by
  have hcap := hr.cap
  have hle := hr.le
  have hcapm := hrm.cap
  have hlem := hrm.le
  unfold maxLen at hcap hcapm
  have HA := Lib.hid (fun W => awake5_any W)
  obtain ⟨W, hW⟩ : ∃ W, w.alloc (.cells #[.string ⟨s.toArray⟩, .string ⟨t.toArray⟩] 67) = W := ⟨_, rfl⟩
  have hbW : Below w.heap.size w W := by rw [← hW]; exact al1 w _
  have x0 : W.cell? ⟨w.heap.size, 0, none⟩ = some (.string ⟨s.toArray⟩) := by rw [← hW]; simp
  have x1 : W.cell? ⟨w.heap.size, 1, none⟩ = some (.string ⟨t.toArray⟩) := by rw [← hW]; simp
  have HX : Hid (∀ V, Below W.heap.size W V → V.cell? ⟨w.heap.size, 0, none⟩ = some (.string ⟨s.toArray⟩) ∧ V.cell? ⟨w.heap.size, 1, none⟩ = some (.string ⟨t.toArray⟩)) := Lib.hid (fun V hb => ⟨old_cell x0 hb, old_cell x1 hb⟩)
  have HFin : Hid (∀ V, Below W.heap.size W V → Below w.heap.size w V) := Lib.hid (fun V h => hbW.trans (h.mono hbW.size))
  have HRM : Hid (∀ V, Below W.heap.size W V → Rd V 3 ma m.length mc (topsV m)) := Lib.hid (fun V h => (hrm.later hbW).later h)
  have HF := Lib.hid (fun V (h : Below W.heap.size W V) => few_any a c l (by omega) hok V ((hr.later hbW).later h))
  have HG2 := Lib.hid (fun V (h : Below W.heap.size W V) => few_any ma mc m (by omega) hokm V ((hrm.later hbW).later h))
  have HSh := Lib.hid (fun V => short_any s t V)
  obtain ⟨M, hM⟩ : ∃ M, m.length = M := ⟨_, rfl⟩
  have HMl := Lib.hid hM
  rw [hM] at HRM HG2 ⊢
  clear hrm hokm hM hcapm hlem
  have tok1 : True := trivial
  by_cases hf : fewL l
  case neg =>
    have hff : decide (fewL l) = false := by simpa using hf
    rw [hff] at HF
    clear hr hok hf hff hbW
    go_enter Try.func9, Try.ntmps9
    go_wp2_with (first
      | (go_at_call 29; have _t := tok1; refine (HF.out _ (Below.refl _ _)).mono ?_; rintro e V ⟨rfl, rfl⟩; clear tok1 _t)
      | (go_at_call 29; refine (HG2.out _ (Below.refl _ _)).mono ?_; rintro e V ⟨rfl, rfl⟩)
      | (go_at_call 35; refine (HSh.out _).mono ?_; rintro e V1 ⟨rfl, hb⟩; have H1 := Lib.hid hb; obtain ⟨d0, d1⟩ := HX.out _ hb; clear hb)
      | (go_at_call 24; refine (HA.out _).mono ?_; rintro e V9 ⟨rfl, hb⟩; have HB := Lib.hid hb; clear hb))
    go_ret
    exact ⟨rfl, HFin.out _ (HB.out)⟩
  have hff : decide (fewL l) = true := by simpa using hf
  have hl := hf.2
  rw [hff] at HF
  by_cases hfm : fewL m
  case neg =>
    have hff : decide (fewL m) = false := by simpa using hfm
    rw [hff] at HG2
    clear hr hok hf hff hbW hfm
    go_enter Try.func9, Try.ntmps9
    go_wp2_with (first
      | (go_at_call 29; have _t := tok1; refine (HF.out _ (Below.refl _ _)).mono ?_; rintro e V ⟨rfl, rfl⟩; clear tok1 _t)
      | (go_at_call 29; refine (HG2.out _ (Below.refl _ _)).mono ?_; rintro e V ⟨rfl, rfl⟩)
      | (go_at_call 35; refine (HSh.out _).mono ?_; rintro e V1 ⟨rfl, hb⟩; have H1 := Lib.hid hb; obtain ⟨d0, d1⟩ := HX.out _ hb; clear hb)
      | (go_at_call 24; refine (HA.out _).mono ?_; rintro e V9 ⟨rfl, hb⟩; have HB := Lib.hid hb; clear hb))
    go_ret
    exact ⟨rfl, HFin.out _ (HB.out)⟩
  have hffm : decide (fewL m) = true := by simpa using hfm
  rw [hffm] at HG2
  clear hffm hfm
  by_cases hsh : s.length ≤ 300 ∧ t.length ≤ 300
  case neg =>
    rw [decide_eq_false hsh] at HSh
    clear hr hok hf hff hbW hsh
    go_enter Try.func9, Try.ntmps9
    go_wp2_with (first
      | (go_at_call 29; have _t := tok1; refine (HF.out _ (Below.refl _ _)).mono ?_; rintro e V ⟨rfl, rfl⟩; clear tok1 _t)
      | (go_at_call 29; refine (HG2.out _ (Below.refl _ _)).mono ?_; rintro e V ⟨rfl, rfl⟩)
      | (go_at_call 35; refine (HSh.out _).mono ?_; rintro e V1 ⟨rfl, hb⟩; have H1 := Lib.hid hb; obtain ⟨d0, d1⟩ := HX.out _ hb; clear hb)
      | (go_at_call 24; refine (HA.out _).mono ?_; rintro e V9 ⟨rfl, hb⟩; have HB := Lib.hid hb; clear hb))
    go_ret
    exact ⟨rfl, HFin.out _ (H1.out.trans (HB.out.mono H1.out.size))⟩
  rw [decide_eq_true hsh] at HSh
  by_cases hkl : 100 < M
  case pos =>
    have hk1 : (100 : Int) < (M : Int) := by omega
    clear hr hok hf hff hbW hsh
    go_enter Try.func9, Try.ntmps9
    go_wp2_with (first
      | (go_at_call 29; have _t := tok1; refine (HF.out _ (Below.refl _ _)).mono ?_; rintro e V ⟨rfl, rfl⟩; clear tok1 _t)
      | (go_at_call 29; refine (HG2.out _ (Below.refl _ _)).mono ?_; rintro e V ⟨rfl, rfl⟩)
      | (go_at_call 35; refine (HSh.out _).mono ?_; rintro e V1 ⟨rfl, hb⟩; have H1 := Lib.hid hb; obtain ⟨d0, d1⟩ := HX.out _ hb; clear hb)
      | (go_at_call 24; refine (HA.out _).mono ?_; rintro e V9 ⟨rfl, hb⟩; have HB := Lib.hid hb; clear hb))
    go_ret
    exact ⟨rfl, HFin.out _ (H1.out.trans (HB.out.mono H1.out.size))⟩
  have hk1 : ¬ (100 : Int) < (M : Int) := by omega
  have HM := Lib.hid (fun V (h : Below W.heap.size W V) => made_any 2 (by omega) (by omega) a c l hl V ((hr.later hbW).later h))
  obtain ⟨L0, hL⟩ : ∃ L, runL l = L := ⟨_, rfl⟩
  have HOk : Hid (OkL L0) := Lib.hid (by rw [← hL]; exact okL_run l)
  have HLn : Hid (L0.length ≤ 200) := Lib.hid (by rw [← hL]; have := run_len l; omega)
  rw [hL] at HM
  have q2 : binOp .neq 9 (.string ⟨t.toArray⟩) (.string ⟨#[]⟩) = pure (.bool (!(t == []))) := str_neq 9 t []
  have q3 := str_lss 9 t s
  clear hr hok hf hff hbW hsh hL
  by_cases hbad : t ≠ [] ∧ less t s = true
  · have HB2 := Lib.hid (fun b W => newC_bad b s t hbad.1 hbad.2 W)
    rw [show (t == []) = false by simpa using hbad.1] at q2
    rw [show Op.bytesLess t s = true from hbad.2] at q3
    clear hbad
    go_enter Try.func9, Try.ntmps9
    go_wp2_with (first
      | (go_at_call 29; have _t := tok1; refine (HF.out _ (Below.refl _ _)).mono ?_; rintro e V ⟨rfl, rfl⟩; clear tok1 _t)
      | (go_at_call 29; refine (HG2.out _ (Below.refl _ _)).mono ?_; rintro e V ⟨rfl, rfl⟩)
      | (go_at_call 35; refine (HSh.out _).mono ?_; rintro e V1 ⟨rfl, hb⟩; have H1 := Lib.hid hb; obtain ⟨d0, d1⟩ := HX.out _ hb; clear hb)
      | (go_at_call 36; refine (HM.out _ H1.out).mono ?_; rintro e V2 ⟨b, r, rfl, ho⟩; have H2 := Lib.hid (And.intro ho (H1.out.trans (ho.low.mono H1.out.size))); obtain ⟨d2, d3⟩ := HX.out _ H2.out.2; clear ho)
      | (go_at_call 26; refine (HB2.out _ _).mono ?_; rintro e V3 ⟨rfl, rfl⟩)
      | (go_at_call 24; refine (HA.out _).mono ?_; rintro e V9 ⟨rfl, hb⟩; have HB := Lib.hid hb; clear hb))
    go_ret
    exact ⟨rfl, HFin.out _ (H2.out.2.trans (HB.out.mono H2.out.2.size))⟩
  have HG : Hid (t = [] ∨ less t s = false) := Lib.hid (by
    by_cases h1 : t = []
    · exact .inl h1
    · cases h2 : less t s with
      | true => exact absurd ⟨h1, h2⟩ hbad
      | false => exact .inr rfl)
  clear hbad
  clear q2 q3
  have HRg := Lib.hid (fun (B r : Nat) (w0 V : World) (A D : Rs) (h : Own B w0 [LstR r L0, A, D] V) => own_range s t 1000 h (by have := HLn.out; omega) (by have := HLn.out; omega))
  go_enter Try.func9, Try.ntmps9
  go_wp2_with (first
    | (go_at_call 29; have _t := tok1; refine (HF.out _ (Below.refl _ _)).mono ?_; rintro e V ⟨rfl, rfl⟩; clear tok1 _t)
    | (go_at_call 29; refine (HG2.out _ (Below.refl _ _)).mono ?_; rintro e V ⟨rfl, rfl⟩)
    | (go_at_call 35; refine (HSh.out _).mono ?_; rintro e V1 ⟨rfl, hb⟩; have H1 := Lib.hid hb; obtain ⟨d0, d1⟩ := HX.out _ hb; clear hb)
    | (go_at_call 36; refine (HM.out _ H1.out).mono ?_; rintro e V2 ⟨b, r, rfl, ho⟩; have H2 := Lib.hid (And.intro ho (H1.out.trans (ho.low.mono H1.out.size))); obtain ⟨d2, d3⟩ := HX.out _ H2.out.2; clear ho)
    | (go_at_call 26; refine (own_curNew s t HG.out H2.out.1).mono ?_; rintro e V3 ⟨g, rfl, h3⟩; have H3 := Lib.hid (And.intro h3 (H1.out.trans (h3.low.mono H1.out.size))); obtain ⟨d4, d5⟩ := HX.out _ H3.out.2; clear h3)
    | (go_at_call 37; refine (HRg.out _ _ _ _ _ _ H3.out.1.third).mono ?_; rintro e V4 ⟨wa, wc, rfl, h4⟩; have H4 := Lib.hid (And.intro h4 (H1.out.trans (h4.low.mono H1.out.size))); obtain ⟨d6, d7⟩ := HX.out _ H4.out.2; clear h4))
  obtain ⟨was, hwas⟩ : ∃ x, Tr.rng s t L0 = x := ⟨_, rfl⟩
  have HST := Lib.hid (stays_start (s := s) (t := t) (m := m) HOk.out HLn.out)
  have HWS : Hid (∀ p ∈ was, t = [] ∨ less p.1 t = true) := Lib.hid (fun p hp => by
    rw [← hwas] at hp
    have := (rng_mem.1 hp).2
    unfold inR at this
    simp at this
    rcases this.2 with h | h
    · exact .inl h
    · exact .inr h)
  rw [hwas] at H4 HST ⊢
  obtain ⟨N, hN⟩ : ∃ N, was.length = N := ⟨_, rfl⟩
  rw [hN] at H4 ⊢
  have HNl := Lib.hid hN
  have hNb : N ≤ 200 := by rw [← hN, ← hwas]; exact Nat.le_trans (rng_len s t L0) HLn.out
  clear hN hwas HRg
  go_loopw [12, 13] (fun tv i wr => ∃ (j : Nat) (at_ : Str) (td : List Str) (L : List Pr) (da : Option Addr) (dc : Nat), j ≤ M + 1000 ∧ i = .int .i64 j ∧ tv = .slice da td.length dc ∧ Hid (Stays s t m was j L at_ td ∧ Own V1.heap.size V1 [SlR 1 da td.length dc (strsV td), CurR g b s t at_, TreeR b 2 L, LstR r L, SlR 2 wa N wc (pairsV was)] wr)) (fun _ i _ => M + 1000 - (intOf i).toNat)
  case atStart => exact ⟨0, s, [], L0, none, 0, by omega, rfl, rfl, Lib.hid ⟨HST.out, own_nilSl (H4.out.1.perm ((List.perm_append_comm (l₁ := [_, _]) (l₂ := [_, _])).trans (.cons _ (.cons _ (.swap _ _ []))))) 1⟩⟩
  case round =>
    obtain ⟨j, at_, td, L, da, dc, hj, rfl, rfl, HJ⟩ := hrel
    have k0 : (0 : Int) ≤ (j : Int) := by omega
    by_cases hlt : j < M + 1000
    · have k1 : (j : Int) < (M : Int) + 1000 := by omega
      by_cases hjm : j < M
      · have k2 : (j : Int) < (M : Int) := by omega
        obtain ⟨⟨ask, key, v⟩, hx⟩ : ∃ x, m[j]? = some x := ⟨_, List.getElem?_eq_getElem (by rw [HMl.out]; exact hjm)⟩
        obtain ⟨mb, mo, hma, m0, m1, m2⟩ := top_at (HRM.out _ (H1.out.trans (HJ.out.2.low.mono H1.out.size))) hx
        subst hma
        have HSD := Lib.hid (stays_does HJ.out.1 hx)
        have HDo := Lib.hid (own_does ask key v (HJ.out.2.perm permJ) (by have := HJ.out.1.len; omega))
        obtain ⟨L2, hL2⟩ : ∃ L2, stepL ask key v L = L2 := ⟨_, rfl⟩
        rw [hL2] at HSD HDo
        have HTA : Hid (td.length ≤ 1200) := Lib.hid (by have := HJ.out.1.many; omega)
        have HN := Lib.hid (fun V (h6 : Own V1.heap.size V1 [TreeR b 2 L2, LstR r L2, SlR 1 da td.length dc (strsV td), CurR g b s t at_, SlR 2 wa N wc (pairsV was)] V) => own_nextX (h6.perm permJ2) (.swap _ _ _) rfl (okL_short HSD.out.2.1))
        have HSo2 : Hid (Sorted L2) := Lib.hid (by rw [← hL2]; exact sorted_stepL ask key v (own_sorted (HJ.out.2.perm rotT)))
        clear hx hL2
        cases hys : Tr.rng at_ t L2 with
        | nil =>
          rw [hys] at HN
          simp only [nk, nv, List.isEmpty_nil, Bool.not_true] at HN
          have HSK := Lib.hid (stays_skip HJ.out.1 HSD.out.1 HSD.out.2.1 HSD.out.2.2 (by rw [HMl.out]; exact hjm) hys)
          clear hys
          go_wp2_with (first
            | (go_at_call 30; refine HDo.out.mono ?_; rintro e V6 ⟨rfl, h6⟩; have H6 := Lib.hid h6; clear h6)
            | (go_at_call 25; refine (HN.out _ H6.out).mono ?_; rintro e V5 ⟨rfl, h5⟩; have H5 := Lib.hid (And.intro h5.swap (H1.out.trans (h5.low.mono H1.out.size))); obtain ⟨d8, d9⟩ := HX.out _ H5.out.2; clear h5))
          go_roundw
          case rel => exact ⟨j + 1, at_, td, L2, da, dc, by omega, by go_num, rfl, Lib.hid ⟨HSK.out, H5.out.1⟩⟩
          case measure => simp [intOf]; omega
        | cons p rest =>
          have HS := Lib.hid (stays_tells HJ.out.1 hys)
          have HE := Lib.hid hys
          rw [hys] at HN
          simp only [nk, nv, List.isEmpty_cons, Bool.not_false] at HN
          have HI := Lib.hid (fun V => in_any p s t V)
          rw [HS.out.1] at HI
          clear hys
          have hTb : td.length ≤ 1200 := HTA.out
          obtain ⟨i0, hi, hz0, hz1, hz2⟩ := info_parts Try.infoS
          have HSo := HSo2
          have HSN := Lib.hid (fun hr2 => stays_next (rest := rest) HJ.out.1 HWS.out HSo.out HSD.out.1 HSD.out.2.1 HSD.out.2.2 (fun h => absurd h (by rw [HMl.out]; omega)) (by rw [HMl.out]; omega) HE.out hr2)
          have HR2 := Lib.hid (rng_rest HSo.out HE.out)
          rcases HJ.out.1.rise with htd | ⟨td', k0, htd, _⟩
          · have t0 : ¬ (0 : Int) < (td.length : Int) := by rw [htd]; simp
            clear htd
            go_wp2_with (first
              | (go_at_call 30; refine HDo.out.mono ?_; rintro e V6 ⟨rfl, h6⟩; have H6 := Lib.hid h6; clear h6)
              | (go_at_call 25; refine (HN.out _ H6.out).mono ?_; rintro e V5 ⟨rfl, h5⟩; have H5 := Lib.hid (And.intro h5.swap (H1.out.trans (h5.low.mono H1.out.size))); obtain ⟨d8, d9⟩ := HX.out _ H5.out.2; clear h5)
              | (go_at_call 38; refine (HI.out _).mono ?_; rintro e V ⟨rfl, rfl⟩)
              | (at_builtin; refine wpList_app_own rfl (.tmp 136) (.tmp 138) 22 rfl 9 i0 _ 1 16 Try.underlying22 hi hz0 hz1 hz2 rfl (by decide) da td.length dc (strsV td) rfl (H5.out.1.later (al1 V5 _)) (some ⟨V5.heap.size, 0, none⟩) 1 1 [.string ⟨p.1.toArray⟩] rfl (Rd.oneNew V5 _ _ rfl) (td.length + 1) (strsV (td ++ [p.1])) rfl (by simp [strsV]) (by unfold maxLen; omega) (by omega) ?_; intro a' c' w1 ho; have H7 := Lib.hid ho; clear ho))
            go_roundw
            case rel => exact ⟨j + 1, p.1 ++ [0], td ++ [p.1], L2, a', c', by omega, by go_num, by simp, Lib.hid ⟨HSN.out HR2.out, by rw [List.length_append]; exact H7.out⟩⟩
            case measure => simp [intOf]; omega
          · have t0 : (0 : Int) < (td.length : Int) := by rw [htd]; simp
            have qk := str_leq 9 p.1 k0 (HS.out.2 td' k0 htd)
            have HK0 : Hid (td[td.length - 1]? = some k0) := Lib.hid (by rw [htd]; simp)
            clear htd
            go_wp2_with (first
              | (go_at_call 30; refine HDo.out.mono ?_; rintro e V6 ⟨rfl, h6⟩; have H6 := Lib.hid h6; clear h6)
              | (go_at_call 25; refine (HN.out _ H6.out).mono ?_; rintro e V5 ⟨rfl, h5⟩; have H5 := Lib.hid (And.intro h5.swap (H1.out.trans (h5.low.mono H1.out.size))); obtain ⟨d8, d9⟩ := HX.out _ H5.out.2; obtain ⟨tb2, to2, hda, w00⟩ := strs_at (own_rd h5.swap) HK0.out; subst hda; clear h5)
              | (go_at_call 38; refine (HI.out _).mono ?_; rintro e V ⟨rfl, rfl⟩)
              | (at_builtin; refine wpList_app_own rfl (.tmp 136) (.tmp 138) 22 rfl 9 i0 _ 1 16 Try.underlying22 hi hz0 hz1 hz2 rfl (by decide) _ td.length dc (strsV td) rfl (H5.out.1.later (al1 V5 _)) (some ⟨V5.heap.size, 0, none⟩) 1 1 [.string ⟨p.1.toArray⟩] rfl (Rd.oneNew V5 _ _ rfl) (td.length + 1) (strsV (td ++ [p.1])) rfl (by simp [strsV]) (by unfold maxLen; omega) (by omega) ?_; intro a' c' w1 ho; have H7 := Lib.hid ho; clear ho))
            go_roundw
            case rel => exact ⟨j + 1, p.1 ++ [0], td ++ [p.1], L2, a', c', by omega, by go_num, by simp, Lib.hid ⟨HSN.out HR2.out, by rw [List.length_append]; exact H7.out⟩⟩
            case measure => simp [intOf]; omega
      · have k2 : ¬ (j : Int) < (M : Int) := by omega
        have HN := Lib.hid (own_nextX HJ.out.2.swap (.swap _ _ _) rfl (okL_short HJ.out.1.ok))
        cases hys : Tr.rng at_ t L with
        | nil =>
          rw [hys] at HN
          simp only [nk, nv, List.isEmpty_nil, Bool.not_true] at HN
          have HE := Lib.hid hys
          clear hys
          go_wp2_with (go_at_call 25; refine HN.out.mono ?_; rintro e V5 ⟨rfl, h5⟩; have H5 := Lib.hid (And.intro h5.swap (H1.out.trans (h5.low.mono H1.out.size))); obtain ⟨d8, d9⟩ := HX.out _ H5.out.2; clear h5)
          have HWR : Hid (∀ V, Below V5.heap.size V5 V → Rd V 2 wa N wc (pairsV was)) := Lib.hid (fun V hb => (own_rd (H5.out.1.perm (List.perm_append_singleton _ [_, _, _, _]))).later hb)
          have HTR : Hid (∀ V, Below V5.heap.size V5 V → Rd V 1 da td.length dc (strsV td)) := Lib.hid (fun V hb => (own_rd H5.out.1).later hb)
          have HMR : Hid (∀ V, Below V5.heap.size V5 V → Rd V 3 ma M mc (topsV m)) := Lib.hid (fun V hb => HRM.out V (H5.out.2.trans (hb.mono H5.out.2.size)))
          have HEnd : Hid (∀ p ∈ was, Free m M p.1 → p.1 ∈ td) := Lib.hid (fun p hp hf => kept1_end (HJ.out.1.kept p hp (fun x hx => hf x (by rw [List.take_of_length_le (by rw [HMl.out]; exact Nat.le_refl _)]; exact List.mem_of_mem_take hx))) (HWS.out p hp) HE.out)
          obtain ⟨T, hT⟩ : ∃ T, td.length = T := ⟨_, rfl⟩
          have HTl := Lib.hid hT
          have hTb : T ≤ 1200 := by have := HJ.out.1.many; omega
          rw [hT] at HTR ⊢
          clear hT
          go_loopw [17] (fun i wr2 => ∃ (q : Nat), q ≤ N ∧ i = .int .i64 q ∧ Hid (Below V5.heap.size V5 wr2)) (fun i _ => N - (intOf i).toNat)
          case atStart => exact ⟨0, by omega, rfl, Lib.hid (Below.refl _ _)⟩
          case round =>
            obtain ⟨q, hq, rfl, HQ⟩ := hrel
            have i0 : (0 : Int) ≤ (q : Int) := by omega
            by_cases hqn : q < N
            · have i1 : (q : Int) < (N : Int) := by omega
              obtain ⟨p, hp⟩ : ∃ p, was[q]? = some p := ⟨_, List.getElem?_eq_getElem (by rw [HNl.out]; exact hqn)⟩
              obtain ⟨xb, xo, hwa, z1, z2⟩ := rd_pair (HWR.out _ HQ.out) hp
              subst hwa
              have HP := Lib.hid (List.mem_of_getElem? hp)
              clear hp
              go_wp2
              obtain ⟨P1, hP1⟩ : ∃ x, p.1 = x := ⟨_, rfl⟩
              rw [hP1] at z1
              have HPE := Lib.hid hP1
              clear z2 hP1
              rename World => Wq
              have HZ : Hid (∀ V, Below Wq.heap.size Wq V → V.cell? ⟨xb, xo + q * 2, none⟩ = some (.string ⟨P1.toArray⟩)) := Lib.hid (fun V hb => old_cell z1 hb)
              go_loopw [18, 19] (fun tv i wr2 => ∃ (k : Nat) (bb : Bool), k ≤ M ∧ i = .int .i64 k ∧ tv = .bool bb ∧ Hid (bb = (m.take k).any (fun x => x.2.1 == P1 && decide (x.1 = 1)) ∧ Below Wq.heap.size Wq wr2)) (fun _ i _ => M - (intOf i).toNat)
              case atStart => exact ⟨0, false, by omega, rfl, rfl, Lib.hid ⟨rfl, Below.refl _ _⟩⟩
              case round =>
                obtain ⟨k, bb, hk, rfl, rfl, HK⟩ := hrel
                have j0 : (0 : Int) ≤ (k : Int) := by omega
                have z2 := HZ.out _ HK.out.2
                by_cases hkm : k < M
                · have j1 : (k : Int) < (M : Int) := by omega
                  obtain ⟨⟨ask, key, v⟩, hx⟩ : ∃ x, m[k]? = some x := ⟨_, List.getElem?_eq_getElem (by rw [HMl.out]; exact hkm)⟩
                  obtain ⟨mb, mo, hma, m0, m1, m2⟩ := top_at (HMR.out _ (HQ.out.trans (HK.out.2.mono HQ.out.size))) hx
                  subst hma
                  have HA1 : Hid ((m.take (k + 1)).any (fun x => x.2.1 == P1 && decide (x.1 = 1)) = (bb || (key == P1 && decide (ask = 1)))) := Lib.hid (by rw [List.take_add_one, hx, List.any_append, ← HK.out.1]; simp)
                  clear hx m2
                  have q1 := str_eql 9 key P1
                  cases bb with
                  | true =>
                    rw [Bool.true_or] at HA1
                    go_wp2
                    go_quiet (fail)
                    go_wp2
                    go_roundw
                    case rel => exact ⟨k + 1, true, by omega, by go_num, rfl, Lib.hid ⟨HA1.out.symm, HK.out.2.trans (below_drewN _ nq |>.mono HK.out.2.size)⟩⟩
                    case measure => simp [intOf]; omega
                  | false =>
                    rw [Bool.false_or] at HA1
                    cases e1 : key == P1 with
                    | false =>
                      rw [e1] at q1 HA1
                      rw [Bool.false_and] at HA1
                      clear e1
                      go_wp2
                      go_quiet (fail)
                      go_wp2
                      go_roundw
                      case rel => exact ⟨k + 1, false, by omega, by go_num, rfl, Lib.hid ⟨HA1.out.symm, HK.out.2.trans (below_drewN _ nq |>.mono HK.out.2.size)⟩⟩
                      case measure => simp [intOf]; omega
                    | true =>
                      rw [e1] at q1 HA1
                      rw [Bool.true_and] at HA1
                      clear e1
                      go_wp2
                      go_quiet (fail)
                      go_wp2
                      go_roundw
                      case rel => exact ⟨k + 1, decide (ask = 1), by omega, by go_num, rfl, Lib.hid ⟨HA1.out.symm, HK.out.2.trans (below_drewN _ nq |>.mono HK.out.2.size)⟩⟩
                      case measure => simp [intOf]; omega
                · obtain rfl : k = M := by omega
                  have j1 : ¬ (k : Int) < (k : Int) := by omega
                  have HBB : Hid (bb = m.any (fun x => x.2.1 == P1 && decide (x.1 = 1))) := Lib.hid (by have := HK.out.1; rwa [List.take_of_length_le (by rw [HMl.out]; exact Nat.le_refl _)] at this)
                  clear z2
                  go_wp2
                  go_loopw [20, 21] (fun tv i wr3 => ∃ (u : Nat) (b2 : Bool), u ≤ T ∧ i = .int .i64 u ∧ tv = .bool b2 ∧ Hid (b2 = (td.take u).any (fun x => x == P1) ∧ Below Wq.heap.size Wq wr3)) (fun _ i _ => T - (intOf i).toNat)
                  case atStart => exact ⟨0, false, by omega, rfl, rfl, Lib.hid ⟨rfl, HK.out.2⟩⟩
                  case round =>
                    obtain ⟨u, b2, hu, rfl, rfl, HU⟩ := hrel
                    have v0 : (0 : Int) ≤ (u : Int) := by omega
                    have z2 := HZ.out _ HU.out.2
                    by_cases hut : u < T
                    · have v1 : (u : Int) < (T : Int) := by omega
                      obtain ⟨y, hy⟩ : ∃ y, td[u]? = some y := ⟨_, List.getElem?_eq_getElem (by rw [HTl.out]; exact hut)⟩
                      obtain ⟨tb2, to2, hda, w0⟩ := strs_at (HTR.out _ (HQ.out.trans (HU.out.2.mono HQ.out.size))) hy
                      subst hda
                      have HA1 : Hid ((td.take (u + 1)).any (fun x => x == P1) = (b2 || y == P1)) := Lib.hid (by rw [List.take_add_one, hy, List.any_append, ← HU.out.1]; simp)
                      clear hy
                      have q1 := str_eql 9 y P1
                      cases b2 with
                      | true =>
                        rw [Bool.true_or] at HA1
                        go_wp2
                        go_quiet (fail)
                        go_wp2
                        go_roundw
                        case rel => exact ⟨u + 1, true, by omega, by go_num, rfl, Lib.hid ⟨HA1.out.symm, HU.out.2.trans (below_drewN _ nq |>.mono HU.out.2.size)⟩⟩
                        case measure => simp [intOf]; omega
                      | false =>
                        rw [Bool.false_or] at HA1
                        go_wp2
                        go_quiet (fail)
                        go_wp2
                        go_roundw
                        case rel => exact ⟨u + 1, y == P1, by omega, by go_num, rfl, Lib.hid ⟨HA1.out.symm, HU.out.2.trans (below_drewN _ nq |>.mono HU.out.2.size)⟩⟩
                        case measure => simp [intOf]; omega
                    · obtain rfl : u = T := by omega
                      have v1 : ¬ (u : Int) < (u : Int) := by omega
                      have hfin : bb = true ∨ b2 = true := by
                        cases hbb : bb with
                        | true => exact .inl rfl
                        | false =>
                          refine .inr ?_
                          have hfree : Free m k p.1 := fun x hx ⟨e1, e2⟩ => by
                            have h1 := HBB.out
                            rw [hbb] at h1
                            have h2 : m.any (fun x => x.2.1 == P1 && decide (x.1 = 1)) = true := List.any_eq_true.2 ⟨x, List.mem_of_mem_take hx, by rw [← HPE.out, e1, e2]; simp⟩
                            rw [h2] at h1
                            cases h1
                          have h3 := HEnd.out p HP.out hfree
                          rw [HU.out.1, List.take_of_length_le (by rw [HTl.out]; exact Nat.le_refl _)]
                          exact List.any_eq_true.2 ⟨p.1, h3, by rw [HPE.out]; simp⟩
                      clear z2
                      have HW3 := Lib.hid (HQ.out.trans (HU.out.2.mono HQ.out.size))
                      cases bb with
                      | true =>
                        go_wp2
                        go_roundw
                        case rel => exact ⟨q + 1, by omega, by go_num, HW3⟩
                        case measure => simp [intOf]; omega
                      | false =>
                        have hb2 : b2 = true := by
                          rcases hfin with h | h
                          · cases h
                          · exact h
                        subst hb2
                        clear hfin
                        go_wp2
                        go_roundw
                        case rel => exact ⟨q + 1, by omega, by go_num, HW3⟩
                        case measure => simp [intOf]; omega
            · obtain rfl : q = N := by omega
              have i1 : ¬ (q : Int) < (q : Int) := by omega
              go_wp2_with (go_at_call 24; refine (HA.out _).mono ?_; rintro e V9 ⟨rfl, hb⟩; have HB := Lib.hid hb; clear hb)
              go_ret
              have b1 := H5.out.2.trans (HQ.out.mono H5.out.2.size)
              exact ⟨rfl, HFin.out _ (b1.trans (HB.out.mono b1.size))⟩
        | cons p rest =>
          have HS := Lib.hid (stays_tells HJ.out.1 hys)
          have HE := Lib.hid hys
          rw [hys] at HN
          simp only [nk, nv, List.isEmpty_cons, Bool.not_false] at HN
          have HI := Lib.hid (fun V => in_any p s t V)
          rw [HS.out.1] at HI
          clear hys
          have hTb : td.length ≤ 1200 := by have := HJ.out.1.many; omega
          obtain ⟨i0, hi, hz0, hz1, hz2⟩ := info_parts Try.infoS
          have hs1 : Sorted L := own_sorted (HJ.out.2.perm rotT)
          have HSN := Lib.hid (fun hr2 => stays_next (rest := rest) HJ.out.1 HWS.out hs1 (fun q hq hf => HJ.out.1.kept q hq (fun x hx => hf x (by rw [List.take_of_length_le (by rw [HMl.out]; omega)]; exact List.mem_of_mem_take hx))) HJ.out.1.ok (by have := HJ.out.1.len; omega) (fun _ => rfl) (by rw [HMl.out]; omega) HE.out hr2)
          have HR2 := Lib.hid (rng_rest hs1 HE.out)
          clear hs1
          rcases HJ.out.1.rise with htd | ⟨td', k0, htd, _⟩
          · have t0 : ¬ (0 : Int) < (td.length : Int) := by rw [htd]; simp
            clear htd
            go_wp2_with (first
              | (go_at_call 25; refine HN.out.mono ?_; rintro e V5 ⟨rfl, h5⟩; have H5 := Lib.hid (And.intro h5.swap (H1.out.trans (h5.low.mono H1.out.size))); obtain ⟨d8, d9⟩ := HX.out _ H5.out.2; clear h5)
              | (go_at_call 38; refine (HI.out _).mono ?_; rintro e V ⟨rfl, rfl⟩)
              | (at_builtin; refine wpList_app_own rfl (.tmp 136) (.tmp 138) 22 rfl 9 i0 _ 1 16 Try.underlying22 hi hz0 hz1 hz2 rfl (by decide) da td.length dc (strsV td) rfl (H5.out.1.later (al1 V5 _)) (some ⟨V5.heap.size, 0, none⟩) 1 1 [.string ⟨p.1.toArray⟩] rfl (Rd.oneNew V5 _ _ rfl) (td.length + 1) (strsV (td ++ [p.1])) rfl (by simp [strsV]) (by unfold maxLen; omega) (by omega) ?_; intro a' c' w1 ho; have H6 := Lib.hid ho; clear ho))
            go_roundw
            case rel => exact ⟨j + 1, p.1 ++ [0], td ++ [p.1], L, a', c', by omega, by go_num, by simp, Lib.hid ⟨HSN.out HR2.out, by rw [List.length_append]; exact H6.out⟩⟩
            case measure => simp [intOf]; omega
          · have t0 : (0 : Int) < (td.length : Int) := by rw [htd]; simp
            have qk := str_leq 9 p.1 k0 (HS.out.2 td' k0 htd)
            have HK0 : Hid (td[td.length - 1]? = some k0) := Lib.hid (by rw [htd]; simp)
            clear htd
            go_wp2_with (first
              | (go_at_call 25; refine HN.out.mono ?_; rintro e V5 ⟨rfl, h5⟩; have H5 := Lib.hid (And.intro h5.swap (H1.out.trans (h5.low.mono H1.out.size))); obtain ⟨d8, d9⟩ := HX.out _ H5.out.2; obtain ⟨tb2, to2, hda, w00⟩ := strs_at (own_rd h5.swap) HK0.out; subst hda; clear h5)
              | (go_at_call 38; refine (HI.out _).mono ?_; rintro e V ⟨rfl, rfl⟩)
              | (at_builtin; refine wpList_app_own rfl (.tmp 136) (.tmp 138) 22 rfl 9 i0 _ 1 16 Try.underlying22 hi hz0 hz1 hz2 rfl (by decide) _ td.length dc (strsV td) rfl (H5.out.1.later (al1 V5 _)) (some ⟨V5.heap.size, 0, none⟩) 1 1 [.string ⟨p.1.toArray⟩] rfl (Rd.oneNew V5 _ _ rfl) (td.length + 1) (strsV (td ++ [p.1])) rfl (by simp [strsV]) (by unfold maxLen; omega) (by omega) ?_; intro a' c' w1 ho; have H6 := Lib.hid ho; clear ho))
            go_roundw
            case rel => exact ⟨j + 1, p.1 ++ [0], td ++ [p.1], L, a', c', by omega, by go_num, by simp, Lib.hid ⟨HSN.out HR2.out, by rw [List.length_append]; exact H6.out⟩⟩
            case measure => simp [intOf]; omega
    · exfalso
      have e := HJ.out.1.run (by rw [HMl.out]; omega)
      rw [HMl.out] at e
      omega
end Go.Proofs.Ytbempjkkohjnbaa
