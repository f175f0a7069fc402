/- The laws of package field: FieldBack. -/
import Derived.Test.YtapjdcofnigjhaaField15
namespace Go.Proofs.Ytapjdcofnigjhaa
open Go.RowKit
/-- What an op writes. -/
def encF (x : FOp) : List UInt8 := if x.1 = 0 then (if x.2.1 < 0 then [] else Fd.grp x.2.1.toNat) else if x.1 = 1 then Fd.grp (Fd.zig x.2.1) else Fd.grp x.2.2.length ++ x.2.2
def encFs (L : List FOp) (k : Nat) : List UInt8 := (L.take k).flatMap encF
theorem encFs_zero (L : List FOp) : encFs L 0 = [] := rfl
theorem encFs_succ {L : List FOp} {k : Nat} {x : FOp} (h : L[k]? = some x) : encFs L (k + 1) = encFs L k ++ encF x := by
  unfold encFs
  rw [List.take_add_one, h, List.flatMap_append]
  simp
theorem encFs_rest {L : List FOp} {k : Nat} {x : FOp} (h : L[k]? = some x) : ∃ rest, encFs L L.length = encFs L k ++ (encF x ++ rest) := by
  have hlt := (List.getElem?_eq_some_iff.1 h).1
  refine ⟨(L.drop (k + 1)).flatMap encF, ?_⟩
  unfold encFs
  rw [List.take_length]
  conv => lhs; rw [← List.take_append_drop k L, List.flatMap_append, List.drop_eq_getElem_cons hlt]
  rw [List.flatMap_cons, (List.getElem?_eq_some_iff.1 h).2]
theorem encF_len {x : FOp} (h1 : Fd.In x.2.1) (h2 : x.2.2.length ≤ 100) : (encF x).length ≤ 110 := by
  obtain ⟨k, n, t⟩ := x
  unfold encF
  simp only at h1 h2 ⊢
  split
  · split
    · simp
    · have := Fd.grp_nine (n := n.toNat) (by unfold Fd.In at h1; omega)
      omega
  · split
    · have := Fd.grp_ten (Fd.zig_lt h1)
      omega
    · have := Fd.grp_nine (n := t.length) (by omega)
      rw [List.length_append]
      omega
section
variable (g : Nat) (a : Option Addr) (c : Nat) (bs : List UInt8) (at_ : Nat)
theorem back_uint (m : Nat) (hm : m < 9223372036854775808) (rest : List UInt8) (hd : bs.drop at_ = Fd.grp m ++ rest) (hl : bs.length ≤ 1000000) (w : World) (h : Rdr w g a c bs at_) :
    Calls Try.prog 33 #[.pointer (some ⟨g, 0, none⟩)] w (OuterR w g a c bs (.int .i64 (m : Int)) 0 (at_ + (Fd.grp m).length)) := by
  have hp : Fd.parse 0 (bs.drop at_) = some (m, (Fd.grp m).length) := by rw [hd]; exact Fd.parse_back (by omega) rest
  have := rUint_any g a c bs at_ hl w h _ hp
  have e1 : uV (some (m, (Fd.grp m).length)) = m := if_pos hm
  have e2 : uE (some (m, (Fd.grp m).length)) = 0 := if_pos hm
  rw [e1, e2] at this
  exact this
theorem back_int (v : Int) (hv : Fd.In v) (rest : List UInt8) (hd : bs.drop at_ = Fd.grp (Fd.zig v) ++ rest) (hl : bs.length ≤ 1000000) (w : World) (h : Rdr w g a c bs at_) :
    Calls Try.prog 34 #[.pointer (some ⟨g, 0, none⟩)] w (OuterR w g a c bs (.int .i64 v) 0 (at_ + (Fd.grp (Fd.zig v)).length)) := by
  have hp : Fd.parse 0 (bs.drop at_) = some (Fd.zig v, (Fd.grp (Fd.zig v)).length) := by rw [hd]; exact Fd.parse_back (Fd.zig_lt hv) rest
  have := rInt_any g a c bs at_ hl w h _ hp
  have e1 : iV (some (Fd.zig v, (Fd.grp (Fd.zig v)).length)) = v := Fd.zag_zig v
  rw [e1] at this
  exact this
theorem back_text (most : Int) (s : List UInt8) (hs : (s.length : Int) ≤ most) (hs2 : s.length ≤ 1000000) (rest : List UInt8) (hd : bs.drop at_ = (Fd.grp s.length ++ s) ++ rest) (hat : at_ ≤ bs.length) (hl : bs.length ≤ 1000000) (w : World) (h : Rdr w g a c bs at_) :
    Calls Try.prog 35 #[.pointer (some ⟨g, 0, none⟩), .int .i64 most] w (OuterR w g a c bs (.string ⟨s.toArray⟩) 0 (at_ + (Fd.grp s.length ++ s).length)) := by
  have hp : Fd.parse 0 (bs.drop at_) = some (s.length, (Fd.grp s.length).length) := by rw [hd, List.append_assoc]; exact Fd.parse_back (by omega) _
  have := rText_any g a c bs at_ most hl w h _ hp
  have hlen : bs.length = at_ + ((Fd.grp s.length).length + s.length + rest.length) := by
    have h2 := congrArg List.length hd
    rw [List.length_drop, List.length_append, List.length_append] at h2
    omega
  have e1 : tE bs.length at_ most (some (s.length, (Fd.grp s.length).length)) = 0 := by rw [tE_eq, if_pos (by omega), if_neg (by omega), if_neg (by omega)]
  have e2 : tV bs at_ most (some (s.length, (Fd.grp s.length).length)) = s := by
    rw [tV_yes e1]
    show (bs.drop (at_ + (Fd.grp s.length).length)).take s.length = s
    rw [← List.drop_drop, hd, List.append_assoc, List.drop_left, List.take_left]
  rw [e1, e2] at this
  rw [List.length_append]
  exact this
end
set_option maxRecDepth 100000 in
set_option maxHeartbeats 4000000 in
theorem fieldBack_walk (a1 : Option Addr) (c1 : Nat) (L : List FOp) (w : World) (h1 : Rd w 3 a1 L.length c1 (fopsV L)) (hw1 : ∀ x ∈ L, OkOp x) :
    Calls Try.prog 9 #[.slice a1 L.length c1] w (FYes w) := by
  have hLm : L.length ≤ 9223372036854775807 := by have := h1.le; have := h1.cap; unfold maxLen at this; omega
  have hfew := few_any a1 c1 L hLm (fun x hx => (hw1 x hx).2) w h1
  have HD := Lib.hid h1
  have HW := Lib.hid hw1
  by_cases hf : fewL L
  · rw [decide_eq_true hf] at hfew
    have HF := Lib.hid hfew
    have hL := hf.2
    have HFL := Lib.hid hf.1
    clear h1 hw1 hfew hf hLm
    have HW0 := Lib.hid (WNew.made (Below.refl w.heap.size w) 51)
    go_enter Try.func9, Try.ntmps9
    go_wp2_with (go_at_call 22; refine HF.out.mono ?_; rintro e w1 ⟨rfl, rfl⟩)
    go_loopw [4] (fun i wr => ∃ (k : Nat), k ≤ L.length ∧ i = .int .i64 k ∧ (encFs L k).length ≤ 110 * k ∧ Hid (WNew w wr w.heap.size (encFs L k))) (fun i _ => L.length - (intOf i).toNat)
    case atStart => exact ⟨0, by omega, rfl, by simp [encFs], HW0⟩
    case round =>
      clear HW0
      obtain ⟨k, hk, rfl, hwl, HS⟩ := hrel
      obtain ⟨wo, rfl⟩ : ∃ wo : World, wo = wr := ⟨_, rfl⟩
      by_cases hlt : k < L.length
      · obtain ⟨⟨ki, n, t⟩, hx⟩ : ∃ x, L[k]? = some x := ⟨_, List.getElem?_eq_getElem hlt⟩
        have hok := HW.out _ (List.mem_of_getElem? hx)
        have htl := HFL.out _ (List.mem_of_getElem? hx)
        obtain ⟨b, o, rfl, x0, x1, x2⟩ := fop_at (HD.out.later HS.out.low) hx
        have hnin := hok.1
        have hn1 : -9223372036854775808 ≤ n := hnin.1
        have hn2 : n ≤ 9223372036854775807 := hnin.2
        have HNI := Lib.hid hnin
        simp only at htl x0 x1 x2
        have hsu := encFs_succ hx
        have hel := encF_len (x := (ki, n, t)) hnin htl
        have hyl : (encFs L (k + 1)).length ≤ 110 * (k + 1) := by rw [hsu, List.length_append]; omega
        have HE := Lib.hid hsu
        have k0 : (0 : Int) ≤ (k : Int) := by omega
        have k1 : (k : Int) < (L.length : Int) := by omega
        obtain ⟨ys, hys⟩ : ∃ ys, ys = encFs L (k + 1) := ⟨_, rfl⟩
        rw [← hys] at HE hyl
        have HYS := Lib.hid hys
        generalize encFs L k = ws at *
        clear hx hok hnin hsu hel hys
        by_cases hk0 : ki = 0
        · subst hk0
          by_cases hneg : n < 0
          · have HN := Lib.hid (fun W => wUint_neg w.heap.size n hneg W)
            have HE2 : Hid (ys = ws) := Lib.hid (by rw [HE.out]; unfold encF; rw [if_pos rfl, if_pos hneg, List.append_nil])
            go_wp2_with (go_at_call 24; refine (HN.out _).mono ?_; rintro e w1 ⟨rfl, rfl⟩)
            go_roundw
            case rel => exact ⟨k + 1, by omega, by go_num, by rw [← HYS.out]; exact hyl, Lib.hid (HYS.out ▸ (by rw [HE2.out]; exact HS.out))⟩
            case measure => simp [intOf]; omega
          · obtain ⟨m, rfl⟩ : ∃ m : Nat, n = (m : Int) := ⟨n.toNat, by omega⟩
            have HU := Lib.hid (fun W h => nUint w w.heap.size ws m (by omega) (by omega) W h)
            have HE2 : Hid (ys = ws ++ Fd.grp m) := Lib.hid (by rw [HE.out]; unfold encF; rw [if_pos rfl, if_neg hneg]; rfl)
            rw [← HE2.out] at HU
            clear hneg
            go_wp2_with (go_at_call 24; refine (HU.out _ HS.out).mono ?_; rintro e w1 ⟨rfl, h⟩; have H1 := Lib.hid h; clear h x0 x1 x2)
            go_roundw
            case rel => exact ⟨k + 1, by omega, by go_num, by rw [← HYS.out]; exact hyl, Lib.hid (HYS.out ▸ H1.out)⟩
            case measure => simp [intOf]; omega
        · by_cases hk1 : ki = 1
          · subst hk1
            have HU := Lib.hid (fun W h => nInt w w.heap.size ws n HNI.out (by omega) W h)
            have HE2 : Hid (ys = ws ++ Fd.grp (Fd.zig n)) := Lib.hid (by rw [HE.out]; rfl)
            rw [← HE2.out] at HU
            clear hk0
            go_wp2_with (go_at_call 27; refine (HU.out _ HS.out).mono ?_; rintro e w1 ⟨rfl, h⟩; have H1 := Lib.hid h; clear h x0 x1 x2)
            go_roundw
            case rel => exact ⟨k + 1, by omega, by go_num, by rw [← HYS.out]; exact hyl, Lib.hid (HYS.out ▸ H1.out)⟩
            case measure => simp [intOf]; omega
          · have HU := Lib.hid (fun W h => nText w w.heap.size ws t (by omega) (by omega) W h)
            have HE2 : Hid (ys = ws ++ (Fd.grp t.length ++ t)) := Lib.hid (by rw [HE.out]; unfold encF; rw [if_neg hk0, if_neg hk1])
            rw [← HE2.out] at HU
            go_wp2_with (go_at_call 29; refine (HU.out _ HS.out).mono ?_; rintro e w1 ⟨rfl, h⟩; have H1 := Lib.hid h; clear h x0 x1 x2)
            go_roundw
            case rel => exact ⟨k + 1, by omega, by go_num, by rw [← HYS.out]; exact hyl, Lib.hid (HYS.out ▸ H1.out)⟩
            case measure => simp [intOf]; omega
      · obtain rfl : k = L.length := by omega
        have HRST := Lib.hid (fun (k : Nat) (x : FOp) (hx : L[k]? = some x) => encFs_rest hx)
        have HSUC := Lib.hid (fun (k : Nat) (x : FOp) (hx : L[k]? = some x) => encFs_succ hx)
        obtain ⟨B, hB⟩ : ∃ B, B = encFs L L.length := ⟨_, rfl⟩
        have HBB := Lib.hid hB
        rw [← hB] at HS hwl
        rw [← hB] at HRST
        have hbl : B.length ≤ 1000000 := by omega
        clear hB
        go_wp2_with (first
          | (go_at_call 30; refine (nBytes w w.heap.size B (by omega) _ HS.out).mono ?_; rintro e w2 ⟨a2, c2, rfl, hr, hb⟩; have H2 := Lib.hid (And.intro (HS.out.low.trans (hb.mono HS.out.low.size)) hr); clear hr hb)
          | (go_at_call 31; refine (read_any _ _ B hbl _ H2.out.2).mono ?_; rintro e w3 ⟨g, a3, c3, rfl, hr, hb, hg⟩; have H3 := Lib.hid (And.intro (And.intro (H2.out.1.trans (hb.mono H2.out.1.size)) (Nat.le_trans H2.out.1.size hg)) hr); clear hr hb hg)
          | (go_at_call 36; refine (left_any g a3 c3 B 0 _ H3.out.2 hbl).mono ?_; rintro e w4 ⟨rfl, nl, rfl⟩))
        have H4 := Lib.hid (And.intro (H3.out.1.1.trans ((drewN_below w3 nl).mono H3.out.1.1.size)) (H3.out.2.later (drewN_below w3 nl)))
        have HG := Lib.hid H3.out.1.2
        generalize w3.drewN nl = W4 at *
        clear HS H2 H3
        go_loopw [7] (fun i wr => ∃ (k : Nat), k ≤ L.length ∧ i = .int .i64 k ∧ Hid (Below w.heap.size w wr ∧ Rdr wr g a3 c3 B (encFs L k).length)) (fun i _ => L.length - (intOf i).toNat)
        case atStart => exact ⟨0, by omega, rfl, H4⟩
        case round =>
          clear H4
          obtain ⟨k, hk2, rfl, HS⟩ := hrel
          obtain ⟨wo, rfl⟩ : ∃ wo : World, wo = wr := ⟨_, rfl⟩
          by_cases hlt2 : k < L.length
          · obtain ⟨⟨ki, n, t⟩, hx⟩ : ∃ x, L[k]? = some x := ⟨_, List.getElem?_eq_getElem hlt2⟩
            have hok := HW.out _ (List.mem_of_getElem? hx)
            have htl := HFL.out _ (List.mem_of_getElem? hx)
            have HC : Hid (∀ W : World, Below w.heap.size w W → ∀ b o, a1 = some ⟨b, o, none⟩ → W.cell? ⟨b, o + k * 3, none⟩ = some (.int .i64 ki) ∧ W.cell? ⟨b, o + k * 3 + 1, none⟩ = some (.int .i64 n) ∧ W.cell? ⟨b, o + k * 3 + 2, none⟩ = some (.string ⟨t.toArray⟩)) := Lib.hid (fun W hb b o e => by
              obtain ⟨b', o', e', h⟩ := fop_at (HD.out.later hb) hx
              rw [e] at e'
              cases e'
              exact h)
            obtain ⟨b, o, rfl, x0, x1, x2⟩ := fop_at (HD.out.later HS.out.1) hx
            have hnin := hok.1
            have hn1 : -9223372036854775808 ≤ n := hnin.1
            have hn2 : n ≤ 9223372036854775807 := hnin.2
            have HNI := Lib.hid hnin
            simp only at htl x0 x1 x2
            obtain ⟨rest, hrest⟩ := HRST.out k _ hx
            have HE := Lib.hid (HSUC.out k _ hx)
            have HDR : Hid (B.drop (encFs L k).length = encF (ki, n, t) ++ rest) := Lib.hid (by rw [hrest, List.drop_left])
            have HLO : Hid (∀ W W' : World, Below w.heap.size w W → Fr (atF g) W W' → Below w.heap.size w W') := Lib.hid (fun W W' h hf => h.trans (hf.below h.size (fun b o e => e.1 ▸ HG.out)))
            have hle := HS.out.2.le
            have k0 : (0 : Int) ≤ (k : Int) := by omega
            have k1 : (k : Int) < (L.length : Int) := by omega
            clear hx hok hnin hrest
            obtain ⟨ys, hys⟩ : ∃ ys, ys = encFs L (k + 1) := ⟨_, rfl⟩
            rw [← hys] at HE
            have HYS := Lib.hid hys
            clear hys
            generalize encFs L k = ws at *
            by_cases hk0 : ki = 0
            · subst hk0
              by_cases hneg : n < 0
              · have HE2 : Hid (ys = ws) := Lib.hid (by rw [HE.out]; unfold encF; rw [if_pos rfl, if_pos hneg, List.append_nil])
                go_wp2
                go_roundw
                case rel => exact ⟨k + 1, by omega, by go_num, Lib.hid ⟨HS.out.1, HYS.out ▸ (by rw [HE2.out]; exact HS.out.2)⟩⟩
                case measure => simp [intOf]; omega
              · obtain ⟨m, rfl⟩ : ∃ m : Nat, n = (m : Int) := ⟨n.toNat, by omega⟩
                have HE2 : Hid (ys = ws ++ Fd.grp m) := Lib.hid (by rw [HE.out]; unfold encF; rw [if_pos rfl, if_neg hneg]; rfl)
                have hdr : B.drop ws.length = Fd.grp m ++ rest := by rw [HDR.out]; unfold encF; rw [if_pos rfl, if_neg hneg]; rfl
                have HU := Lib.hid (back_uint g a3 c3 B ws.length m (by omega) rest hdr hbl wo HS.out.2)
                rw [← List.length_append, ← HE2.out] at HU
                clear hneg hdr
                go_wp2_with (go_at_call 33; refine HU.out.mono ?_; rintro e w1 ⟨rfl, hr, hf⟩; have H1 := Lib.hid (And.intro (HLO.out _ _ HS.out.1 hf) hr); clear hr hf x0 x1 x2; obtain ⟨x0, x1, x2⟩ := HC.out w1 H1.out.1 b o rfl)
                go_roundw
                case rel => exact ⟨k + 1, by omega, by go_num, Lib.hid ⟨H1.out.1, HYS.out ▸ H1.out.2⟩⟩
                case measure => simp [intOf]; omega
            · by_cases hk1 : ki = 1
              · subst hk1
                have HE2 : Hid (ys = ws ++ Fd.grp (Fd.zig n)) := Lib.hid (by rw [HE.out]; rfl)
                have hdr : B.drop ws.length = Fd.grp (Fd.zig n) ++ rest := by rw [HDR.out]; rfl
                have HU := Lib.hid (back_int g a3 c3 B ws.length n HNI.out rest hdr hbl wo HS.out.2)
                rw [← List.length_append, ← HE2.out] at HU
                clear hk0 hdr
                go_wp2_with (go_at_call 34; refine HU.out.mono ?_; rintro e w1 ⟨rfl, hr, hf⟩; have H1 := Lib.hid (And.intro (HLO.out _ _ HS.out.1 hf) hr); clear hr hf x0 x1 x2; obtain ⟨x0, x1, x2⟩ := HC.out w1 H1.out.1 b o rfl)
                go_roundw
                case rel => exact ⟨k + 1, by omega, by go_num, Lib.hid ⟨H1.out.1, HYS.out ▸ H1.out.2⟩⟩
                case measure => simp [intOf]; omega
              · have HE2 : Hid (ys = ws ++ (Fd.grp t.length ++ t)) := Lib.hid (by rw [HE.out]; unfold encF; rw [if_neg hk0, if_neg hk1])
                have hdr : B.drop ws.length = (Fd.grp t.length ++ t) ++ rest := by rw [HDR.out]; unfold encF; rw [if_neg hk0, if_neg hk1]
                have HU := Lib.hid (back_text g a3 c3 B ws.length 100 t (by omega) (by omega) rest hdr hle hbl wo HS.out.2)
                rw [← List.length_append, ← HE2.out] at HU
                clear hdr
                go_wp2_with (go_at_call 35; refine HU.out.mono ?_; rintro e w1 ⟨rfl, hr, hf⟩; have H1 := Lib.hid (And.intro (HLO.out _ _ HS.out.1 hf) hr); clear hr hf x0 x1 x2; obtain ⟨x0, x1, x2⟩ := HC.out w1 H1.out.1 b o rfl)
                go_roundw
                case rel => exact ⟨k + 1, by omega, by go_num, Lib.hid ⟨H1.out.1, HYS.out ▸ H1.out.2⟩⟩
                case measure => simp [intOf]; omega
          · obtain rfl : k = L.length := by omega
            rw [← HBB.out] at HS
            have HLF := Lib.hid (left_any g a3 c3 B B.length _ HS.out.2 hbl)
            go_wp2_with (first
              | (go_at_call 36; refine HLF.out.mono ?_; rintro e w4 ⟨rfl, nl, rfl⟩)
              | (go_at_call 23; refine (awake02 _).mono ?_; rintro e w4 ⟨rfl, hb⟩; have H4 := Lib.hid ((HS.out.1.trans ((drewN_below wo nl).mono HS.out.1.size)).trans (hb.mono (Nat.le_trans HS.out.1.size (Nat.le_refl _)))); clear hb))
            go_ret
            exact ⟨rfl, H4.out⟩
  · rw [decide_eq_false hf] at hfew
    have HF := Lib.hid hfew
    clear h1 hw1 hfew hf
    go_enter Try.func9, Try.ntmps9
    go_wp2_with (first
      | (go_at_call 22; refine HF.out.mono ?_; rintro e w1 ⟨rfl, rfl⟩)
      | (go_at_call 23; refine (awake02 _).mono ?_; rintro e w4 ⟨rfl, hb⟩; have H4 := Lib.hid hb; clear hb))
    go_ret
    exact ⟨rfl, H4.out⟩
end Go.Proofs.Ytapjdcofnigjhaa
