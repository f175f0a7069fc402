/- The laws of package field: FieldWrites. -/
import Derived.Test.YtapjdcofnigjhaaField14
import Derived.Deep.Cut
namespace Go.Proofs.Ytapjdcofnigjhaa
open Go.RowKit
/-- What may stand in an op. -/
def OkOp (x : FOp) : Prop := Fd.In x.2.1 ∧ x.2.2.length ≤ 9223372036854775807
theorem bytes_N (a : Option Addr) (c : Nat) (xs : List UInt8) (b : Option Addr) (d : Nat) (ys : List UInt8) (N : Nat) (hN : ys.length = N) (w : World) (hx : RdB w a c xs) (hy : RdB w b d ys) :
    Calls Try.prog 15 #[.slice a xs.length c, .slice b N d] w fun e w' => e = .returned (.bool (decide (xs = ys))) ∧ Below w.heap.size w w' := by
  subst hN
  exact bytes_B a c xs b d ys w hx hy
set_option maxRecDepth 100000 in
set_option maxHeartbeats 4000000 in
theorem fieldWrites_walk (a1 : Option Addr) (c1 : Nat) (L : List FOp) (w : World) (h1 : Rd w 3 a1 L.length c1 (fopsV L)) (hw1 : ∀ x ∈ L, OkOp x) :
    Calls Try.prog 7 #[.slice a1 L.length c1] w (FYes w) := by
  have hLm : L.length ≤ 9223372036854775807 := by have := h1.le; have := h1.cap; unfold maxLen at this; omega
  have hfew := few_any a1 c1 L hLm (fun x hx => (hw1 x hx).2) w h1
  obtain ⟨i0, hi, hz0, hz1, hz2⟩ := info_parts Try.infoByte
  have HD := Lib.hid h1
  have HW := Lib.hid hw1
  by_cases hf : fewL L
  · rw [decide_eq_true hf] at hfew
    have HF := Lib.hid hfew
    have hL := hf.2
    have HFL := Lib.hid hf.1
    clear h1 hw1 hfew hf hLm
    have HW0 := Lib.hid (WW.start (WNew.made (Below.refl w.heap.size w) 51))
    go_enter Try.func7, Try.ntmps7
    go_wp2_with (go_at_call 22; refine HF.out.mono ?_; rintro e w1 ⟨rfl, rfl⟩)
    go_loopw [4, 5] (fun s i wr => ∃ (k : Nat) (aw : Option Addr) (cw : Nat) (ws : List UInt8), k ≤ L.length ∧ i = .int .i64 k ∧ s = .slice aw ws.length cw ∧ ws.length ≤ 110 * k ∧ Hid (WW w wr w.heap.size ws aw cw ws)) (fun _ i _ => L.length - (intOf i).toNat)
    case atStart => exact ⟨0, none, 0, [], by omega, rfl, rfl, by simp, HW0⟩
    case round =>
      clear HW0
      obtain ⟨k, aw, cw, ws, hk, rfl, rfl, hwl, HS⟩ := hrel
      obtain ⟨wo, rfl⟩ : ∃ wo : World, wo = wr := ⟨_, rfl⟩
      by_cases hlt : k < L.length
      · obtain ⟨⟨ki, n, t⟩, hx⟩ : ∃ x, L[k]? = some x := ⟨_, List.getElem?_eq_getElem hlt⟩
        have hok := HW.out _ (List.mem_of_getElem? hx)
        have htl := HFL.out _ (List.mem_of_getElem? hx)
        have HC : Hid (∀ W : World, Below w.heap.size w W → ∀ b o, a1 = some ⟨b, o, none⟩ → W.cell? ⟨b, o + k * 3, none⟩ = some (.int .i64 ki) ∧ W.cell? ⟨b, o + k * 3 + 1, none⟩ = some (.int .i64 n) ∧ W.cell? ⟨b, o + k * 3 + 2, none⟩ = some (.string ⟨t.toArray⟩)) := Lib.hid (fun W hb b o e => by
          obtain ⟨b', o', e', h⟩ := fop_at (HD.out.later hb) hx
          rw [e] at e'
          cases e'
          exact h)
        obtain ⟨b, o, rfl, x0, x1, x2⟩ := fop_at (HD.out.later HS.out.low) hx
        have hnin := hok.1
        have hn1 : -9223372036854775808 ≤ n := hnin.1
        have hn2 : n ≤ 9223372036854775807 := hnin.2
        have HNI := Lib.hid hnin
        simp only at htl x0 x1 x2
        have k0 : (0 : Int) ≤ (k : Int) := by omega
        have k1 : (k : Int) < (L.length : Int) := by omega
        clear hx hok hnin
        by_cases hk0 : ki = 0
        · subst hk0
          by_cases hneg : n < 0
          · have HN := Lib.hid (fun W => wUint_neg w.heap.size n hneg W)
            go_wp2_with (go_at_call 24; refine (HN.out _).mono ?_; rintro e w1 ⟨rfl, rfl⟩)
            go_roundw
            case rel => exact ⟨k + 1, aw, cw, ws, by omega, by go_num, rfl, by omega, HS⟩
            case measure => simp [intOf]; omega
          · obtain ⟨m, rfl⟩ : ∃ m : Nat, n = (m : Int) := ⟨n.toNat, by omega⟩
            have hgl := Fd.grp_nine (n := m) (by omega)
            have HU := Lib.hid (fun W h => wwUint w w.heap.size ws aw cw ws m (by omega) (by omega) W h)
            have HRU := Lib.hid (fun W => refUint m (by omega) W)
            obtain ⟨ys, hys⟩ : ∃ ys, ys = ws ++ Fd.grp m := ⟨_, rfl⟩
            rw [← hys] at HU
            generalize Fd.grp m = G at *
            have hyl : ys.length ≤ 10000000 := by rw [hys, List.length_append]; omega
            have HYL : Hid (ys.length = ws.length + G.length) := Lib.hid (by rw [hys, List.length_append])
            have hy2 : ys.length ≤ 110 * (k + 1) := by rw [HYL.out]; omega
            have HYS := Lib.hid hys
            clear hys hneg
            go_upto_region 24 with (first
              | (go_at_call 24; refine (HU.out _ HS.out).mono ?_; rintro e w1 ⟨rfl, h⟩; have H1 := Lib.hid h; clear h x0 x1 x2; obtain ⟨x0, x1, x2⟩ := HC.out w1 H1.out.low b o rfl)
              | (go_at_call 25; refine (HRU.out _).mono ?_; rintro e w2 ⟨b2, d2, rfl, hr, hb⟩; have H2 := Lib.hid (And.intro (H1.out.later hb) hr); clear hr hb x0 x1 x2)
              | (at_builtin; refine wpList_app_ww rfl (.tmp 57) (.tmp 63) 25 rfl 5 i0 Try.underlying25 hi hz0 hz1 hz2 w w.heap.size ys aw cw ws rfl H2.out.1 b2 d2 G rfl H2.out.2 (ws.length + G.length) rfl (by omega) ?_; intro a2 c2 w3 h; rw [← HYS.out] at h; have H3 := Lib.hid h; clear h))
            go_wp2_with (first
              | (go_at_call 30; refine (nBytes w w.heap.size ys hyl _ H3.out.new).mono ?_; rintro e w4 ⟨a4, c4, rfl, hr, hb⟩; have H4 := Lib.hid (And.intro (H3.out.later hb) hr); clear hr hb)
              | (go_at_call 15; refine (bytes_N _ _ ys _ _ ys (ws.length + G.length) HYL.out _ H4.out.2 H4.out.1.rd).mono ?_; rintro e w5 ⟨rfl, hb⟩; have H5 := Lib.hid (H4.out.1.later hb); clear hb))
            go_roundw
            case rel => exact ⟨k + 1, a2, c2, ys, by omega, by go_num, by rw [HYL.out], by omega, H5⟩
            case measure => simp [intOf]; omega
        · by_cases hk1 : ki = 1
          · subst hk1
            have hgl := Fd.grp_ten (Fd.zig_lt HNI.out)
            have HU := Lib.hid (fun W aw cw ys h => wwInt w w.heap.size ws aw cw ys n HNI.out (by omega) W h)
            have HRU := Lib.hid (fun W => refInt n HNI.out W)
            obtain ⟨ys, hys⟩ : ∃ ys, ys = ws ++ Fd.grp (Fd.zig n) := ⟨_, rfl⟩
            rw [← hys] at HU
            generalize Fd.grp (Fd.zig n) = G at *
            have hyl : ys.length ≤ 10000000 := by rw [hys, List.length_append]; omega
            have HYL : Hid (ys.length = ws.length + G.length) := Lib.hid (by rw [hys, List.length_append])
            have hy2 : ys.length ≤ 110 * (k + 1) := by rw [HYL.out]; omega
            have HYS := Lib.hid hys
            clear hys hk0
            go_upto_region 24 with (first
              | (go_at_call 26; refine (HRU.out _).mono ?_; rintro e w1 ⟨b2, d2, rfl, hr, hb⟩; have H1 := Lib.hid (And.intro (HS.out.later hb) hr); clear hr hb x0 x1 x2)
              | (at_builtin; refine wpList_app_ww rfl (.tmp 69) (.tmp 75) 25 rfl 5 i0 Try.underlying25 hi hz0 hz1 hz2 w w.heap.size ws aw cw ws rfl H1.out.1 b2 d2 G rfl H1.out.2 (ws.length + G.length) rfl (by omega) ?_; intro a2 c2 w2 h; rw [← HYS.out] at h; have H2 := Lib.hid h; clear h; obtain ⟨x0, x1, x2⟩ := HC.out w2 H2.out.low b o rfl)
              | (go_at_call 27; refine (HU.out _ _ _ _ H2.out).mono ?_; rintro e w3 ⟨rfl, h⟩; have H3 := Lib.hid h; clear h x0 x1 x2))
            go_wp2_with (first
              | (go_at_call 30; refine (nBytes w w.heap.size ys hyl _ H3.out.new).mono ?_; rintro e w4 ⟨a4, c4, rfl, hr, hb⟩; have H4 := Lib.hid (And.intro (H3.out.later hb) hr); clear hr hb)
              | (go_at_call 15; refine (bytes_N _ _ ys _ _ ys (ws.length + G.length) HYL.out _ H4.out.2 H4.out.1.rd).mono ?_; rintro e w5 ⟨rfl, hb⟩; have H5 := Lib.hid (H4.out.1.later hb); clear hb))
            go_roundw
            case rel => exact ⟨k + 1, a2, c2, ys, by omega, by go_num, by rw [HYL.out], by omega, H5⟩
            case measure => simp [intOf]; omega
          · have hgl := Fd.grp_nine (n := t.length) (by omega)
            have HU := Lib.hid (fun W aw cw ys h => wwText w w.heap.size ws aw cw ys t (by omega) (by omega) W h)
            have HRU := Lib.hid (fun W => refText t (by omega) W)
            obtain ⟨ys, hys⟩ : ∃ ys, ys = ws ++ (Fd.grp t.length ++ t) := ⟨_, rfl⟩
            rw [← hys] at HU
            have hgl2 : (Fd.grp t.length ++ t).length ≤ 109 := by rw [List.length_append]; omega
            generalize Fd.grp t.length ++ t = G at *
            have hyl : ys.length ≤ 10000000 := by rw [hys, List.length_append]; omega
            have HYL : Hid (ys.length = ws.length + G.length) := Lib.hid (by rw [hys, List.length_append])
            have hy2 : ys.length ≤ 110 * (k + 1) := by rw [HYL.out]; omega
            have HYS := Lib.hid hys
            clear hys hgl
            go_upto_region 24 with (first
              | (go_at_call 28; refine (HRU.out _).mono ?_; rintro e w1 ⟨b2, d2, rfl, hr, hb⟩; have H1 := Lib.hid (And.intro (HS.out.later hb) hr); clear hr hb x0 x1 x2)
              | (at_builtin; refine wpList_app_ww rfl (.tmp 24) (.tmp 30) 25 rfl 5 i0 Try.underlying25 hi hz0 hz1 hz2 w w.heap.size ws aw cw ws rfl H1.out.1 b2 d2 G rfl H1.out.2 (ws.length + G.length) rfl (by omega) ?_; intro a2 c2 w2 h; rw [← HYS.out] at h; have H2 := Lib.hid h; clear h; obtain ⟨x0, x1, x2⟩ := HC.out w2 H2.out.low b o rfl)
              | (go_at_call 29; refine (HU.out _ _ _ _ H2.out).mono ?_; rintro e w3 ⟨rfl, h⟩; have H3 := Lib.hid h; clear h x0 x1 x2))
            go_wp2_with (first
              | (go_at_call 30; refine (nBytes w w.heap.size ys hyl _ H3.out.new).mono ?_; rintro e w4 ⟨a4, c4, rfl, hr, hb⟩; have H4 := Lib.hid (And.intro (H3.out.later hb) hr); clear hr hb)
              | (go_at_call 15; refine (bytes_N _ _ ys _ _ ys (ws.length + G.length) HYL.out _ H4.out.2 H4.out.1.rd).mono ?_; rintro e w5 ⟨rfl, hb⟩; have H5 := Lib.hid (H4.out.1.later hb); clear hb))
            go_roundw
            case rel => exact ⟨k + 1, a2, c2, ys, by omega, by go_num, by rw [HYL.out], by omega, H5⟩
            case measure => simp [intOf]; omega
      · obtain rfl : k = L.length := by omega
        go_wp2_with (go_at_call 23; refine (awake02 _).mono ?_; rintro e w4 ⟨rfl, hb⟩; have H4 := Lib.hid (HS.out.low.trans (hb.mono HS.out.low.size)); clear hb)
        go_ret
        exact ⟨rfl, H4.out⟩
  · rw [decide_eq_false hf] at hfew
    have HF := Lib.hid hfew
    clear h1 hw1 hfew hf
    go_enter Try.func7, Try.ntmps7
    go_wp2_with (first
      | (go_at_call 22; refine HF.out.mono ?_; rintro e w1 ⟨rfl, rfl⟩)
      | (go_at_call 23; refine (awake02 _).mono ?_; rintro e w4 ⟨rfl, hb⟩; have H4 := Lib.hid hb; clear hb))
    go_ret
    exact ⟨rfl, H4.out⟩
end Go.Proofs.Ytapjdcofnigjhaa
