/- The laws of package sched: SchedPlays. -/
import Derived.Test.YtpfcghigfkhimaaSched17
import Derived.Deep.Cut
namespace Go.Proofs.Ytpfcghigfkhimaa
open Go.RowKit

/-- Three cells of a variable. -/
def OC (w : World) (B : Nat) (x : ActT) : Prop := w.cell? ⟨B, 0, none⟩ = some (.int .i64 x.1) ∧ w.cell? ⟨B, 1, none⟩ = some (.int .i64 x.2.1) ∧ w.cell? ⟨B, 2, none⟩ = some (.int .i64 x.2.2)
theorem OC.later {w w' : World} {B : Nat} {x : ActT} (h : OC w B x) (hb : Below w.heap.size w w') : OC w' B x := ⟨old_cell h.1 hb, old_cell h.2.1 hb, old_cell h.2.2 hb⟩
theorem OC.fr {w w' : World} {B : Nat} {x : ActT} (h : OC w B x) {g sb : Nat} {chs : List Nat} {st : List (Option Int)} (hb : Brd w g sb chs st) (hf : Fr (bF chs) w w') : OC w' B x :=
  ⟨cell_fr hf h.1 (hb.no_cell h.1 _), cell_fr hf h.2.1 (hb.no_cell h.2.1 _), cell_fr hf h.2.2 (hb.no_cell h.2.2 _)⟩
theorem OC.made (w : World) (x y z : Int) (t : TypeId) : OC (w.alloc (.cells #[.int .i64 x, .int .i64 y, .int .i64 z] t)) w.heap.size (x, y, z) := by
  refine ⟨?_, ?_, ?_⟩ <;> simp [World.cell?_alloc_new]
/-- A state of the play: the board, the checker's list, a variable. -/
structure Pl (w0 w : World) (g sb : Nat) (chs : List Nat) (n : Nat) (a : Option Addr) (c : Nat) (st : List (Option Int)) : Prop where
  new : New w0 w g sb chs st
  rd : Rd w 2 a n c (wksV st)
  wf : WfO st
  len : st.length = n
  chl : chs.length = n
section
variable {w0 w w' : World} {g sb : Nat} {chs : List Nat} {n : Nat} {a a' : Option Addr} {c c' : Nat} {st st' : List (Option Int)}
theorem Pl.later (h : Pl w0 w g sb chs n a c st) (hb : Below w.heap.size w w') : Pl w0 w' g sb chs n a c st := ⟨h.new.later hb, h.rd.later hb, h.wf, h.len, h.chl⟩
theorem Pl.turn (h : Pl w0 w g sb chs n a c st) (hb : Brd w' g sb chs st) (hf : Fr (bF chs) w w') : Pl w0 w' g sb chs n a c st := ⟨h.new.turn hb hf, h.new.keep h.rd hf, h.wf, h.len, h.chl⟩
theorem Pl.next (h : New w0 w g sb chs st) (hc : chs.length = n) (hr : Rd w 2 a n c (wksV st')) (hb : Brd w' g sb chs st') (hf : Fr (bF chs) w w') (hw : WfO st') (hl : st'.length = n) : Pl w0 w' g sb chs n a c st' := ⟨h.turn hb hf, h.keep hr hf, hw, hl, hc⟩
end
theorem idleB_uni (g sb : Nat) (chs : List Nat) (n : Nat) (st : List (Option Int)) (hc : chs.length = n) (I : List Int) (hI : I = idleL st n) (m : Nat) (hm : m = I.length) (w : World) (h : Brd w g sb chs st) :
    Calls Try.prog 13 #[.pointer (some ⟨g, 0, none⟩)] w fun e w' => ∃ a c, e = .returned (.slice a m c) ∧ Rd w' 1 a m c (intsV I) ∧ Brd w' g sb chs st ∧ Fr (bF chs) w w' := by
  subst hc hI hm
  exact (idle_any g sb chs st w h).mono fun e w' ⟨a, c, h1, h2, h3⟩ => ⟨a, c, h1, h2.rd, h3, h2.low⟩
set_option maxRecDepth 100000 in
set_option maxHeartbeats 8000000 in
theorem schedPlays_walk (v : Int) (a1 : Option Addr) (c1 : Nat) (D : List ActT) (a2 : Option Addr) (c2 : Nat) (R : List Int) (w : World) (h1 : Rd w 3 a1 D.length c1 (actsV D)) (hw1 : ∀ x ∈ D, (Lit.int .i64 x.2.2).wf = true) (h2 : Rd w 1 a2 R.length c2 (intsV R)) (hw2 : WfI R) :
    Calls Try.prog 5 #[.int .i64 v, .slice a1 D.length c1, .slice a2 R.length c2] w (Yes w) := by
  by_cases hv : v < 1 ∨ 16 < v
  · have HN := Lib.hid (new_bad v hv)
    clear h1 h2 hw1 hw2
    rcases hv with hv | hv
    · go_enter Try.func5, Try.ntmps5
      go_wp2_with (first
        | (go_at_call 8; refine (HN.out _).mono ?_; rintro e w1 ⟨rfl, rfl⟩)
        | (go_at_call 9; refine (awake_any _).mono ?_; rintro e w4 ⟨rfl, hb⟩; have H4 := Lib.hid hb; clear hb))
      go_ret
      exact ⟨rfl, H4.out⟩
    · have hv' : ¬ v < 1 := by omega
      go_enter Try.func5, Try.ntmps5
      go_wp2_with (first
        | (go_at_call 8; refine (HN.out _).mono ?_; rintro e w1 ⟨rfl, rfl⟩)
        | (go_at_call 9; refine (awake_any _).mono ?_; rintro e w4 ⟨rfl, hb⟩; have H4 := Lib.hid hb; clear hb))
      go_ret
      exact ⟨rfl, H4.out⟩
  obtain ⟨n, rfl⟩ : ∃ n : Nat, v = (n : Int) := ⟨v.toNat, by omega⟩
  have HN := Lib.hid (fun w => new_any n (by omega) (by omega) w)
  have n1 : (1 : Int) ≤ (n : Int) := by omega
  have n16 : (n : Int) ≤ 16 := by omega
  clear hv
  by_cases hD : 60 < D.length
  · have hD' : (60 : Int) < (D.length : Int) := by omega
    clear h1 h2 hw1 hw2
    go_enter Try.func5, Try.ntmps5
    go_wp2_with (first
      | (go_at_call 8; refine (HN.out _).mono ?_; rintro e w1 ⟨g, sb, chs, rfl, hb, hl, h1, h2, h3⟩; have H1 := Lib.hid hl; clear hb hl h1 h2 h3)
      | (go_at_call 9; refine (awake_any _).mono ?_; rintro e w4 ⟨rfl, hb⟩; have H4 := Lib.hid (H1.out.trans (hb.mono H1.out.size)); clear hb))
    go_ret
    exact ⟨rfl, H4.out⟩
  have hD' : (D.length : Int) ≤ 60 := by omega
  by_cases hR2 : 20 < R.length
  · have hR' : (20 : Int) < (R.length : Int) := by omega
    clear h1 h2 hw1 hw2
    go_enter Try.func5, Try.ntmps5
    go_wp2_with (first
      | (go_at_call 8; refine (HN.out _).mono ?_; rintro e w1 ⟨g, sb, chs, rfl, hb, hl, h1, h2, h3⟩; have H1 := Lib.hid hl; clear hb hl h1 h2 h3)
      | (go_at_call 9; refine (awake_any _).mono ?_; rintro e w4 ⟨rfl, hb⟩; have H4 := Lib.hid (H1.out.trans (hb.mono H1.out.size)); clear hb))
    go_ret
    exact ⟨rfl, H4.out⟩
  have hR' : (R.length : Int) ≤ 20 := by omega
  obtain ⟨M, hmk, hM⟩ := make_wks n (by omega) (by omega)
  have HD := Lib.hid h1
  have HR := Lib.hid h2
  have HW := Lib.hid (And.intro hw1 hw2)
  have HM := Lib.hid hM
  clear h1 h2 hw1 hw2 hM
  go_enter Try.func5, Try.ntmps5
  go_wp2_with (first
    | (go_at_call 8; refine (HN.out _).mono ?_; rintro e w1 ⟨g, sb, chs, rfl, hb, hl, h1, h2, h3⟩; have HC : Hid (chs.length = n) := Lib.hid (by have := hb.len; simpa using this.symm); have H1 := Lib.hid (New.mk hb hl h1 h2 h3); clear hb hl h1 h2 h3))
  have HP : Hid (Pl w (w1.alloc (.cells M 51)) g sb chs n (some ⟨w1.heap.size, 0, none⟩) n (List.replicate n none)) := Lib.hid ⟨H1.out.later (al1 w1 _), HM.out w1, (fun o ho i hi => by rw [(List.mem_replicate.1 ho).2] at hi; cases hi), List.length_replicate .., HC.out⟩
  go_loopw [9, 10] (fun s i wr => ∃ (k : Nat) (a : Option Addr) (c : Nat), k ≤ D.length ∧ i = .int .i64 k ∧ s = .slice a n c ∧ Hid (∃ st, Pl w wr g sb chs n a c st)) (fun _ i _ => D.length - (intOf i).toNat)
  case atStart => exact ⟨0, _, _, by omega, rfl, rfl, Lib.hid ⟨_, HP.out⟩⟩
  case round =>
    clear HP H1 HM HN hmk
    obtain ⟨k, a, c, hk, rfl, rfl, HS⟩ := hrel
    obtain ⟨wo, rfl⟩ : ∃ wo : World, wo = wr := ⟨_, rfl⟩
    obtain ⟨st, hs⟩ := HS.out
    have HP := Lib.hid hs
    clear hs HS
    by_cases hlt : k < D.length
    · obtain ⟨⟨ask, u, id⟩, hx⟩ : ∃ x, D[k]? = some x := ⟨_, List.getElem?_eq_getElem hlt⟩
      obtain ⟨b, o, rfl, x0, x1, x2⟩ := act_at (HD.out.later HP.out.new.low) hx
      have HWX := Lib.hid (HW.out.1 _ (List.mem_of_getElem? hx))
      have HPa := Lib.hid (HP.out.later (al1 wo (.cells #[.int .i64 ask, .int .i64 u, .int .i64 id] 43)))
      have HO := Lib.hid (OC.made wo ask u id 43)
      have k0 : (0 : Int) ≤ (k : Int) := by omega
      have k1 : (k : Int) < (D.length : Int) := by omega
      clear hx
      by_cases ha0 : ask = 0
      · subst ha0
        have HG := Lib.hid (fun w h => refGive_uni a c n st HP.out.len (by omega) u id w h)
        have HB := Lib.hid (fun w h => give_uni g sb chs st u id w h)
        have HL := Lib.hid (And.intro (giveS_wf (v := u) HP.out.wf HWX.out) ((giveS_length st u id).trans HP.out.len))
        generalize giveS st u id = st1 at *
        generalize giveF st u id = f at *
        go_upto_region 31 with (first
          | (go_at_call 15; refine (HG.out _ HPa.out.rd).mono ?_; rintro e w2 ⟨a', c', rfl, hr, hb⟩; have H2 := Lib.hid (And.intro (HPa.out.new.later hb) (And.intro hr (HO.out.later hb))); clear hr hb; obtain ⟨y0, y1, y2⟩ := H2.out.2.2)
          | (go_at_call 10; refine (HB.out _ H2.out.1.brd).mono ?_; rintro e w3 ⟨rfl, hb, hf⟩; have H3 := Lib.hid (Pl.next H2.out.1 HP.out.chl H2.out.2.1 hb hf HL.out.1 HL.out.2); have HO3 := Lib.hid (H2.out.2.2.fr H2.out.1.brd hf); clear hb hf y0 y1 y2; obtain ⟨y0, y1, y2⟩ := HO3.out))
        have HA := Lib.hid (fun W h hr => acts_k g sb chs st1 false a2 c2 R.length n (actsL st1 n false R).length R (actsL st1 n false R) rfl HP.out.chl rfl rfl (by omega) W h hr HL.out.1 HW.out.2)
        have HRA := Lib.hid (fun a c W h hr => acts_uni a c n st1 false a2 c2 R HL.out.2 (by omega) (by omega) W h hr (actsL st1 n false R) rfl _ rfl)
        have HAL := Lib.hid (acts_len st1 n false R)
        generalize actsL st1 n false R = AL at *
        have HI := Lib.hid (fun a c W h => idle_uni a c n st1 HL.out.2 (by omega) W h (idleL st1 n) rfl _ rfl)
        have HIB := Lib.hid (fun W h => idleB_uni g sb chs n st1 HP.out.chl (idleL st1 n) rfl _ rfl W h)
        have HIL := Lib.hid (idleL_len st1 n)
        generalize idleL st1 n = I at *
        have hil := HIL.out
        have hal := HAL.out
        have hml := mul_small (n := n) (k := R.length) (by omega) (by omega)
        go_wp2_with (first
          | (go_at_call 18; refine (HI.out _ _ _ H3.out.rd).mono ?_; rintro e w4 ⟨a4, c4, rfl, hr, hb⟩; have H4 := Lib.hid (And.intro (H3.out.later hb) hr); have HO4 := Lib.hid (HO3.out.later hb); clear hr hb y0 y1 y2)
          | (go_at_call 13; refine (HIB.out _ H4.out.1.new.brd).mono ?_; rintro e w5 ⟨a5, c5, rfl, hr, hb, hf⟩; have H5 := Lib.hid (And.intro (H4.out.1.turn hb hf) (And.intro (H4.out.1.new.keep H4.out.2 hf) hr)); have HO5 := Lib.hid (HO4.out.fr H4.out.1.new.brd hf); clear hb hf hr))
        go_loopw [24] (fun i wr => ∃ (q : Nat), q ≤ I.length ∧ i = .int .i64 q ∧ Hid (Below w5.heap.size w5 wr)) (fun i _ => I.length - (intOf i).toNat)
        case atStart => exact ⟨0, by omega, rfl, Lib.hid (Below.refl _ _)⟩
        case round =>
          obtain ⟨q, hq, rfl, HB6⟩ := hrel
          obtain ⟨w6, rfl⟩ : ∃ w6 : World, w6 = wr := ⟨_, rfl⟩
          by_cases hqt : q < I.length
          · obtain ⟨z, hz⟩ : ∃ z, I[q]? = some z := ⟨_, List.getElem?_eq_getElem hqt⟩
            obtain ⟨b3, o3, rfl, z0⟩ := ints_at (H5.out.2.1.later HB6.out) hz
            obtain ⟨b4, o4, rfl, z1⟩ := ints_at (H5.out.2.2.later HB6.out) hz
            have q0 : (0 : Int) ≤ (q : Int) := by omega
            have q1 : (q : Int) < (I.length : Int) := by omega
            clear hz
            go_wp2
            go_quiet (fail)
            go_wp2
            go_roundw
            case rel => exact ⟨q + 1, by omega, by go_num, Lib.hid (HB6.out.trans ⟨rfl, rfl, rfl, Nat.le_refl _, fun _ _ => rfl⟩)⟩
            case measure => simp [intOf]; omega
          · obtain rfl : q = I.length := by omega
            have H6 := Lib.hid (H5.out.1.later HB6.out)
            obtain ⟨y0, y1, y2⟩ := HO5.out.later HB6.out
            go_wp2_with (first
              | (go_at_call 11; refine (HA.out _ H6.out.new.brd (HR.out.later H6.out.new.low)).mono ?_; rintro e w7 ⟨a7, c7, rfl, hr, hb, hf⟩; have H7 := Lib.hid (And.intro (H6.out.turn hb hf) hr); clear hr hb hf y0 y1 y2)
              | (go_at_call 20; refine (HRA.out _ _ _ H7.out.1.rd (HR.out.later H7.out.1.new.low)).mono ?_; rintro e w8 ⟨a8, c8, rfl, hr, hb⟩; have H8 := Lib.hid (And.intro (H7.out.1.later hb) (And.intro (H7.out.2.later hb) hr)); clear hr hb)
              | (go_at_call 19; refine (lawSame_true _ _ _ _ AL (by omega) _ H8.out.2.1 H8.out.2.2).mono ?_; rintro e w9 ⟨rfl, hb⟩; have H9 : Hid (∃ st, Pl w w9 g sb chs n a' c' st) := Lib.hid ⟨st1, H8.out.1.later hb⟩; clear hb))
            go_roundw
            case rel => exact ⟨k + 1, a', c', by omega, by go_num, rfl, H9⟩
            case measure => simp [intOf]; omega
      · by_cases ha1 : ask = 1
        · subst ha1
          have HG := Lib.hid (fun w h => refTake_uni a c n st HP.out.len (by omega) u w h)
          have HB := Lib.hid (fun w h => take_uni g sb chs st u w h)
          have HL := Lib.hid (And.intro (takeS_wf (v := u) HP.out.wf) ((takeS_length st u).trans HP.out.len))
          generalize takeS st u = st1 at *
          generalize takeF st u = f at *
          generalize (look st u).getD 0 = d at *
          clear ha0
          go_upto_region 31 with (first
            | (go_at_call 16; refine (HG.out _ HPa.out.rd).mono ?_; rintro e w2 ⟨a', c', rfl, hr, hb⟩; have H2 := Lib.hid (And.intro (HPa.out.new.later hb) (And.intro hr (HO.out.later hb))); clear hr hb; obtain ⟨y0, y1, y2⟩ := H2.out.2.2)
            | (go_at_call 17; refine (HB.out _ H2.out.1.brd).mono ?_; rintro e w3 ⟨rfl, hb, hf⟩; have H3 := Lib.hid (Pl.next H2.out.1 HP.out.chl H2.out.2.1 hb hf HL.out.1 HL.out.2); have HO3 := Lib.hid (H2.out.2.2.fr H2.out.1.brd hf); clear hb hf y0 y1 y2; obtain ⟨y0, y1, y2⟩ := HO3.out))
          have HA := Lib.hid (fun W h hr => acts_k g sb chs st1 true a2 c2 R.length n (actsL st1 n true R).length R (actsL st1 n true R) rfl HP.out.chl rfl rfl (by omega) W h hr HL.out.1 HW.out.2)
          have HRA := Lib.hid (fun a c W h hr => acts_uni a c n st1 true a2 c2 R HL.out.2 (by omega) (by omega) W h hr (actsL st1 n true R) rfl _ rfl)
          have HAL := Lib.hid (acts_len st1 n true R)
          generalize actsL st1 n true R = AL at *
          have HI := Lib.hid (fun a c W h => idle_uni a c n st1 HL.out.2 (by omega) W h (idleL st1 n) rfl _ rfl)
          have HIB := Lib.hid (fun W h => idleB_uni g sb chs n st1 HP.out.chl (idleL st1 n) rfl _ rfl W h)
          have HIL := Lib.hid (idleL_len st1 n)
          generalize idleL st1 n = I at *
          have hil := HIL.out
          have hal := HAL.out
          have hml := mul_small (n := n) (k := R.length) (by omega) (by omega)
          go_wp2_with (first
            | (go_at_call 18; refine (HI.out _ _ _ H3.out.rd).mono ?_; rintro e w4 ⟨a4, c4, rfl, hr, hb⟩; have H4 := Lib.hid (And.intro (H3.out.later hb) hr); have HO4 := Lib.hid (HO3.out.later hb); clear hr hb y0 y1 y2)
            | (go_at_call 13; refine (HIB.out _ H4.out.1.new.brd).mono ?_; rintro e w5 ⟨a5, c5, rfl, hr, hb, hf⟩; have H5 := Lib.hid (And.intro (H4.out.1.turn hb hf) (And.intro (H4.out.1.new.keep H4.out.2 hf) hr)); have HO5 := Lib.hid (HO4.out.fr H4.out.1.new.brd hf); clear hb hf hr))
          go_loopw [24] (fun i wr => ∃ (q : Nat), q ≤ I.length ∧ i = .int .i64 q ∧ Hid (Below w5.heap.size w5 wr)) (fun i _ => I.length - (intOf i).toNat)
          case atStart => exact ⟨0, by omega, rfl, Lib.hid (Below.refl _ _)⟩
          case round =>
            obtain ⟨q, hq, rfl, HB6⟩ := hrel
            obtain ⟨w6, rfl⟩ : ∃ w6 : World, w6 = wr := ⟨_, rfl⟩
            by_cases hqt : q < I.length
            · obtain ⟨z, hz⟩ : ∃ z, I[q]? = some z := ⟨_, List.getElem?_eq_getElem hqt⟩
              obtain ⟨b3, o3, rfl, z0⟩ := ints_at (H5.out.2.1.later HB6.out) hz
              obtain ⟨b4, o4, rfl, z1⟩ := ints_at (H5.out.2.2.later HB6.out) hz
              have q0 : (0 : Int) ≤ (q : Int) := by omega
              have q1 : (q : Int) < (I.length : Int) := by omega
              clear hz
              go_wp2
              go_quiet (fail)
              go_wp2
              go_roundw
              case rel => exact ⟨q + 1, by omega, by go_num, Lib.hid (HB6.out.trans ⟨rfl, rfl, rfl, Nat.le_refl _, fun _ _ => rfl⟩)⟩
              case measure => simp [intOf]; omega
            · obtain rfl : q = I.length := by omega
              have H6 := Lib.hid (H5.out.1.later HB6.out)
              obtain ⟨y0, y1, y2⟩ := HO5.out.later HB6.out
              go_wp2_with (first
                | (go_at_call 11; refine (HA.out _ H6.out.new.brd (HR.out.later H6.out.new.low)).mono ?_; rintro e w7 ⟨a7, c7, rfl, hr, hb, hf⟩; have H7 := Lib.hid (And.intro (H6.out.turn hb hf) hr); clear hr hb hf y0 y1 y2)
                | (go_at_call 20; refine (HRA.out _ _ _ H7.out.1.rd (HR.out.later H7.out.1.new.low)).mono ?_; rintro e w8 ⟨a8, c8, rfl, hr, hb⟩; have H8 := Lib.hid (And.intro (H7.out.1.later hb) (And.intro (H7.out.2.later hb) hr)); clear hr hb)
                | (go_at_call 19; refine (lawSame_true _ _ _ _ AL (by omega) _ H8.out.2.1 H8.out.2.2).mono ?_; rintro e w9 ⟨rfl, hb⟩; have H9 : Hid (∃ st, Pl w w9 g sb chs n a' c' st) := Lib.hid ⟨st1, H8.out.1.later hb⟩; clear hb))
              go_roundw
              case rel => exact ⟨k + 1, a', c', by omega, by go_num, rfl, H9⟩
              case measure => simp [intOf]; omega
        · cases hin : inB st u with
          | true =>
            obtain ⟨i, rfl, hlt2, hx2⟩ := look_at hin
            have HX2 := Lib.hid hx2
            have HB := Lib.hid (fun w h => does_uni g sb chs st (i : Int) w h)
            have HL := Lib.hid (And.intro HP.out.wf HP.out.len)
            generalize look st (i : Int) = p at *
            have hlen := HP.out.len
            have i0 : (0 : Int) ≤ (i : Int) := by omega
            have i1 : (i : Int) < (n : Int) := by omega
            clear hin hx2 hlen
            go_upto_region 31 with (first
              | (go_at_call 12; refine (HB.out _ HPa.out.new.brd).mono ?_; rintro e w2 ⟨rfl, hb, hf⟩; have H2 := Lib.hid (And.intro (HPa.out.turn hb hf) (HO.out.fr HPa.out.new.brd hf)); clear hb hf; obtain ⟨y0, y1, y2⟩ := H2.out.2; obtain ⟨b5, o5, rfl, z0, z1⟩ := wk_at H2.out.1.rd HX2.out; have sz0 : wo.heap.size < w2.heap.size := block_of_cell y0; have sz1 : b5 < w2.heap.size := block_of_cell z0))
            have H3 := Lib.hid (H2.out.1.later (al1 w2 (.cells #[.int .i64 (p.getD 0), .bool p.isSome] 51)))
            have HO3 := Lib.hid (H2.out.2.later (al1 w2 (.cells #[.int .i64 (p.getD 0), .bool p.isSome] 51)))
            generalize w2.alloc (.cells #[.int .i64 (p.getD 0), .bool p.isSome] 51) = w3 at *
            clear z0 z1 sz1 sz0 y0 y1 y2
            obtain ⟨y0, y1, y2⟩ := HO3.out
            have HA := Lib.hid (fun W h hr => acts_k g sb chs st false a2 c2 R.length n (actsL st n false R).length R (actsL st n false R) rfl HP.out.chl rfl rfl (by omega) W h hr HL.out.1 HW.out.2)
            have HRA := Lib.hid (fun a c W h hr => acts_uni a c n st false a2 c2 R HL.out.2 (by omega) (by omega) W h hr (actsL st n false R) rfl _ rfl)
            have HAL := Lib.hid (acts_len st n false R)
            generalize actsL st n false R = AL at *
            have HI := Lib.hid (fun a c W h => idle_uni a c n st HL.out.2 (by omega) W h (idleL st n) rfl _ rfl)
            have HIB := Lib.hid (fun W h => idleB_uni g sb chs n st HP.out.chl (idleL st n) rfl _ rfl W h)
            have HIL := Lib.hid (idleL_len st n)
            generalize idleL st n = I at *
            have hil := HIL.out
            have hal := HAL.out
            have hml := mul_small (n := n) (k := R.length) (by omega) (by omega)
            go_wp2_with (first
              | (go_at_call 18; refine (HI.out _ _ _ H3.out.rd).mono ?_; rintro e w4 ⟨a4, c4, rfl, hr, hb⟩; have H4 := Lib.hid (And.intro (H3.out.later hb) hr); have HO4 := Lib.hid (HO3.out.later hb); clear hr hb y0 y1 y2)
              | (go_at_call 13; refine (HIB.out _ H4.out.1.new.brd).mono ?_; rintro e w5 ⟨a5, c5, rfl, hr, hb, hf⟩; have H5 := Lib.hid (And.intro (H4.out.1.turn hb hf) (And.intro (H4.out.1.new.keep H4.out.2 hf) hr)); have HO5 := Lib.hid (HO4.out.fr H4.out.1.new.brd hf); clear hb hf hr))
            go_loopw [24] (fun i wr => ∃ (q : Nat), q ≤ I.length ∧ i = .int .i64 q ∧ Hid (Below w5.heap.size w5 wr)) (fun i _ => I.length - (intOf i).toNat)
            case atStart => exact ⟨0, by omega, rfl, Lib.hid (Below.refl _ _)⟩
            case round =>
              obtain ⟨q, hq, rfl, HB6⟩ := hrel
              obtain ⟨w6, rfl⟩ : ∃ w6 : World, w6 = wr := ⟨_, rfl⟩
              by_cases hqt : q < I.length
              · obtain ⟨z, hz⟩ : ∃ z, I[q]? = some z := ⟨_, List.getElem?_eq_getElem hqt⟩
                obtain ⟨b3, o3, rfl, z0⟩ := ints_at (H5.out.2.1.later HB6.out) hz
                obtain ⟨b4, o4, rfl, z1⟩ := ints_at (H5.out.2.2.later HB6.out) hz
                have q0 : (0 : Int) ≤ (q : Int) := by omega
                have q1 : (q : Int) < (I.length : Int) := by omega
                clear hz
                go_wp2
                go_quiet (fail)
                go_wp2
                go_roundw
                case rel => exact ⟨q + 1, by omega, by go_num, Lib.hid (HB6.out.trans ⟨rfl, rfl, rfl, Nat.le_refl _, fun _ _ => rfl⟩)⟩
                case measure => simp [intOf]; omega
              · obtain rfl : q = I.length := by omega
                have H6 := Lib.hid (H5.out.1.later HB6.out)
                obtain ⟨y0, y1, y2⟩ := HO5.out.later HB6.out
                go_wp2_with (first
                  | (go_at_call 11; refine (HA.out _ H6.out.new.brd (HR.out.later H6.out.new.low)).mono ?_; rintro e w7 ⟨a7, c7, rfl, hr, hb, hf⟩; have H7 := Lib.hid (And.intro (H6.out.turn hb hf) hr); clear hr hb hf y0 y1 y2)
                  | (go_at_call 20; refine (HRA.out _ _ _ H7.out.1.rd (HR.out.later H7.out.1.new.low)).mono ?_; rintro e w8 ⟨a8, c8, rfl, hr, hb⟩; have H8 := Lib.hid (And.intro (H7.out.1.later hb) (And.intro (H7.out.2.later hb) hr)); clear hr hb)
                  | (go_at_call 19; refine (lawSame_true _ _ _ _ AL (by omega) _ H8.out.2.1 H8.out.2.2).mono ?_; rintro e w9 ⟨rfl, hb⟩; have H9 : Hid (∃ st, Pl w w9 g sb chs n (some ⟨b5, o5, none⟩) c st) := Lib.hid ⟨st, H8.out.1.later hb⟩; clear hb))
                go_roundw
                case rel => exact ⟨k + 1, (some ⟨b5, o5, none⟩), c, by omega, by go_num, rfl, H9⟩
                case measure => simp [intOf]; omega
          | false =>
            have hlook := look_out hin
            have HB := Lib.hid (fun w h => does_uni g sb chs st u w h)
            rw [hlook] at HB
            have HL := Lib.hid (And.intro HP.out.wf HP.out.len)
            have hlen := HP.out.len
            have hr : u < 0 ∨ (0 ≤ u ∧ (n : Int) ≤ u) := by
              unfold inB at hin
              rw [decide_eq_false_iff_not] at hin
              omega
            clear hin hlook hlen
            rcases hr with hr | hr
            · have hr' : decide (0 ≤ u) = false := by simp; omega
              go_upto_region 31 with (first
                | (go_at_call 12; refine (HB.out _ HPa.out.new.brd).mono ?_; rintro e w2 ⟨rfl, hb, hf⟩; have H2 := Lib.hid (And.intro (HPa.out.turn hb hf) (HO.out.fr HPa.out.new.brd hf)); clear hb hf; obtain ⟨y0, y1, y2⟩ := H2.out.2; have sz0 : wo.heap.size < w2.heap.size := block_of_cell y0))
              have H3 := Lib.hid (H2.out.1.later (al1 w2 (.cells #[.int .i64 0, .bool false] 51)))
              have HO3 := Lib.hid (H2.out.2.later (al1 w2 (.cells #[.int .i64 0, .bool false] 51)))
              generalize w2.alloc (.cells #[.int .i64 0, .bool false] 51) = w3 at *
              clear sz0 y0 y1 y2
              obtain ⟨y0, y1, y2⟩ := HO3.out
              have HA := Lib.hid (fun W h hr => acts_k g sb chs st false a2 c2 R.length n (actsL st n false R).length R (actsL st n false R) rfl HP.out.chl rfl rfl (by omega) W h hr HL.out.1 HW.out.2)
              have HRA := Lib.hid (fun a c W h hr => acts_uni a c n st false a2 c2 R HL.out.2 (by omega) (by omega) W h hr (actsL st n false R) rfl _ rfl)
              have HAL := Lib.hid (acts_len st n false R)
              generalize actsL st n false R = AL at *
              have HI := Lib.hid (fun a c W h => idle_uni a c n st HL.out.2 (by omega) W h (idleL st n) rfl _ rfl)
              have HIB := Lib.hid (fun W h => idleB_uni g sb chs n st HP.out.chl (idleL st n) rfl _ rfl W h)
              have HIL := Lib.hid (idleL_len st n)
              generalize idleL st n = I at *
              have hil := HIL.out
              have hal := HAL.out
              have hml := mul_small (n := n) (k := R.length) (by omega) (by omega)
              go_wp2_with (first
                | (go_at_call 18; refine (HI.out _ _ _ H3.out.rd).mono ?_; rintro e w4 ⟨a4, c4, rfl, hr, hb⟩; have H4 := Lib.hid (And.intro (H3.out.later hb) hr); have HO4 := Lib.hid (HO3.out.later hb); clear hr hb y0 y1 y2)
                | (go_at_call 13; refine (HIB.out _ H4.out.1.new.brd).mono ?_; rintro e w5 ⟨a5, c5, rfl, hr, hb, hf⟩; have H5 := Lib.hid (And.intro (H4.out.1.turn hb hf) (And.intro (H4.out.1.new.keep H4.out.2 hf) hr)); have HO5 := Lib.hid (HO4.out.fr H4.out.1.new.brd hf); clear hb hf hr))
              go_loopw [24] (fun i wr => ∃ (q : Nat), q ≤ I.length ∧ i = .int .i64 q ∧ Hid (Below w5.heap.size w5 wr)) (fun i _ => I.length - (intOf i).toNat)
              case atStart => exact ⟨0, by omega, rfl, Lib.hid (Below.refl _ _)⟩
              case round =>
                obtain ⟨q, hq, rfl, HB6⟩ := hrel
                obtain ⟨w6, rfl⟩ : ∃ w6 : World, w6 = wr := ⟨_, rfl⟩
                by_cases hqt : q < I.length
                · obtain ⟨z, hz⟩ : ∃ z, I[q]? = some z := ⟨_, List.getElem?_eq_getElem hqt⟩
                  obtain ⟨b3, o3, rfl, z0⟩ := ints_at (H5.out.2.1.later HB6.out) hz
                  obtain ⟨b4, o4, rfl, z1⟩ := ints_at (H5.out.2.2.later HB6.out) hz
                  have q0 : (0 : Int) ≤ (q : Int) := by omega
                  have q1 : (q : Int) < (I.length : Int) := by omega
                  clear hz
                  go_wp2
                  go_quiet (fail)
                  go_wp2
                  go_roundw
                  case rel => exact ⟨q + 1, by omega, by go_num, Lib.hid (HB6.out.trans ⟨rfl, rfl, rfl, Nat.le_refl _, fun _ _ => rfl⟩)⟩
                  case measure => simp [intOf]; omega
                · obtain rfl : q = I.length := by omega
                  have H6 := Lib.hid (H5.out.1.later HB6.out)
                  obtain ⟨y0, y1, y2⟩ := HO5.out.later HB6.out
                  go_wp2_with (first
                    | (go_at_call 11; refine (HA.out _ H6.out.new.brd (HR.out.later H6.out.new.low)).mono ?_; rintro e w7 ⟨a7, c7, rfl, hr, hb, hf⟩; have H7 := Lib.hid (And.intro (H6.out.turn hb hf) hr); clear hr hb hf y0 y1 y2)
                    | (go_at_call 20; refine (HRA.out _ _ _ H7.out.1.rd (HR.out.later H7.out.1.new.low)).mono ?_; rintro e w8 ⟨a8, c8, rfl, hr, hb⟩; have H8 := Lib.hid (And.intro (H7.out.1.later hb) (And.intro (H7.out.2.later hb) hr)); clear hr hb)
                    | (go_at_call 19; refine (lawSame_true _ _ _ _ AL (by omega) _ H8.out.2.1 H8.out.2.2).mono ?_; rintro e w9 ⟨rfl, hb⟩; have H9 : Hid (∃ st, Pl w w9 g sb chs n a c st) := Lib.hid ⟨st, H8.out.1.later hb⟩; clear hb))
                  go_roundw
                  case rel => exact ⟨k + 1, a, c, by omega, by go_num, rfl, H9⟩
                  case measure => simp [intOf]; omega
            · obtain ⟨hr0, hr1⟩ := hr
              have hr' : ¬ u < (n : Int) := by omega
              go_upto_region 31 with (first
                | (go_at_call 12; refine (HB.out _ HPa.out.new.brd).mono ?_; rintro e w2 ⟨rfl, hb, hf⟩; have H2 := Lib.hid (And.intro (HPa.out.turn hb hf) (HO.out.fr HPa.out.new.brd hf)); clear hb hf; obtain ⟨y0, y1, y2⟩ := H2.out.2; have sz0 : wo.heap.size < w2.heap.size := block_of_cell y0))
              have H3 := Lib.hid (H2.out.1.later (al1 w2 (.cells #[.int .i64 0, .bool false] 51)))
              have HO3 := Lib.hid (H2.out.2.later (al1 w2 (.cells #[.int .i64 0, .bool false] 51)))
              generalize w2.alloc (.cells #[.int .i64 0, .bool false] 51) = w3 at *
              clear sz0 y0 y1 y2
              obtain ⟨y0, y1, y2⟩ := HO3.out
              have HA := Lib.hid (fun W h hr => acts_k g sb chs st false a2 c2 R.length n (actsL st n false R).length R (actsL st n false R) rfl HP.out.chl rfl rfl (by omega) W h hr HL.out.1 HW.out.2)
              have HRA := Lib.hid (fun a c W h hr => acts_uni a c n st false a2 c2 R HL.out.2 (by omega) (by omega) W h hr (actsL st n false R) rfl _ rfl)
              have HAL := Lib.hid (acts_len st n false R)
              generalize actsL st n false R = AL at *
              have HI := Lib.hid (fun a c W h => idle_uni a c n st HL.out.2 (by omega) W h (idleL st n) rfl _ rfl)
              have HIB := Lib.hid (fun W h => idleB_uni g sb chs n st HP.out.chl (idleL st n) rfl _ rfl W h)
              have HIL := Lib.hid (idleL_len st n)
              generalize idleL st n = I at *
              have hil := HIL.out
              have hal := HAL.out
              have hml := mul_small (n := n) (k := R.length) (by omega) (by omega)
              go_wp2_with (first
                | (go_at_call 18; refine (HI.out _ _ _ H3.out.rd).mono ?_; rintro e w4 ⟨a4, c4, rfl, hr, hb⟩; have H4 := Lib.hid (And.intro (H3.out.later hb) hr); have HO4 := Lib.hid (HO3.out.later hb); clear hr hb y0 y1 y2)
                | (go_at_call 13; refine (HIB.out _ H4.out.1.new.brd).mono ?_; rintro e w5 ⟨a5, c5, rfl, hr, hb, hf⟩; have H5 := Lib.hid (And.intro (H4.out.1.turn hb hf) (And.intro (H4.out.1.new.keep H4.out.2 hf) hr)); have HO5 := Lib.hid (HO4.out.fr H4.out.1.new.brd hf); clear hb hf hr))
              go_loopw [24] (fun i wr => ∃ (q : Nat), q ≤ I.length ∧ i = .int .i64 q ∧ Hid (Below w5.heap.size w5 wr)) (fun i _ => I.length - (intOf i).toNat)
              case atStart => exact ⟨0, by omega, rfl, Lib.hid (Below.refl _ _)⟩
              case round =>
                obtain ⟨q, hq, rfl, HB6⟩ := hrel
                obtain ⟨w6, rfl⟩ : ∃ w6 : World, w6 = wr := ⟨_, rfl⟩
                by_cases hqt : q < I.length
                · obtain ⟨z, hz⟩ : ∃ z, I[q]? = some z := ⟨_, List.getElem?_eq_getElem hqt⟩
                  obtain ⟨b3, o3, rfl, z0⟩ := ints_at (H5.out.2.1.later HB6.out) hz
                  obtain ⟨b4, o4, rfl, z1⟩ := ints_at (H5.out.2.2.later HB6.out) hz
                  have q0 : (0 : Int) ≤ (q : Int) := by omega
                  have q1 : (q : Int) < (I.length : Int) := by omega
                  clear hz
                  go_wp2
                  go_quiet (fail)
                  go_wp2
                  go_roundw
                  case rel => exact ⟨q + 1, by omega, by go_num, Lib.hid (HB6.out.trans ⟨rfl, rfl, rfl, Nat.le_refl _, fun _ _ => rfl⟩)⟩
                  case measure => simp [intOf]; omega
                · obtain rfl : q = I.length := by omega
                  have H6 := Lib.hid (H5.out.1.later HB6.out)
                  obtain ⟨y0, y1, y2⟩ := HO5.out.later HB6.out
                  go_wp2_with (first
                    | (go_at_call 11; refine (HA.out _ H6.out.new.brd (HR.out.later H6.out.new.low)).mono ?_; rintro e w7 ⟨a7, c7, rfl, hr, hb, hf⟩; have H7 := Lib.hid (And.intro (H6.out.turn hb hf) hr); clear hr hb hf y0 y1 y2)
                    | (go_at_call 20; refine (HRA.out _ _ _ H7.out.1.rd (HR.out.later H7.out.1.new.low)).mono ?_; rintro e w8 ⟨a8, c8, rfl, hr, hb⟩; have H8 := Lib.hid (And.intro (H7.out.1.later hb) (And.intro (H7.out.2.later hb) hr)); clear hr hb)
                    | (go_at_call 19; refine (lawSame_true _ _ _ _ AL (by omega) _ H8.out.2.1 H8.out.2.2).mono ?_; rintro e w9 ⟨rfl, hb⟩; have H9 : Hid (∃ st, Pl w w9 g sb chs n a c st) := Lib.hid ⟨st, H8.out.1.later hb⟩; clear hb))
                  go_roundw
                  case rel => exact ⟨k + 1, a, c, by omega, by go_num, rfl, H9⟩
                  case measure => simp [intOf]; omega
    · obtain rfl : k = D.length := by omega
      go_wp2_with (first
        | (go_at_call 9; refine (awake_any _).mono ?_; rintro e w4 ⟨rfl, hb⟩; have H4 := Lib.hid (HP.out.new.low.trans (hb.mono HP.out.new.low.size)); clear hb))
      go_ret
      exact ⟨rfl, H4.out⟩
end Go.Proofs.Ytpfcghigfkhimaa
