/- Package proc: steps, Bound. -/
import Derived.Test.YtgoegdlhbadlfaaDoorPr6
namespace Go.Proofs.YtgoegdlhbadlfaaDoor
namespace Pc
open Go.RowKit
theorem slice_mid {P : Program} (t : TypeId) (ht : P.underlying t = some (.slice (P.elem t))) (size : Nat) (hs : ∀ w : World, (sizeOf (P.elem t)).run P w = .ok size w) (a : Option Addr) (n c : Nat) (l m : Nat) (hl : l ≤ m) (hm : m ≤ c) :
    ∃ a', (∀ W : World, (Instr.slice t (.slice a n c) (some (.int .i64 (l : Int))) (some (.int .i64 (m : Int))) none).run P W = .ok (.slice a' (m - l) (c - l)) W) ∧ (¬ c = l → ∀ x, a = some x → a' = some (x.add (l * size))) ∧ (a' = none → a = none) := by
  refine ⟨if c = l then a else a.map (fun x => x.add (l * size)), fun W => ?_, fun hc x hx => by simp [hc, hx], fun h0 => ?_⟩
  · rw [run_slice_lh W t a n c ht .i64 .i64 (l : Int) (m : Int) (by omega) (by omega) (by omega), hs W]
    simp [Result.andThen, sliced]
  · split at h0
    · exact h0
    · cases a with
      | none => rfl
      | some x => simp at h0
theorem drop_get {l : List OpP} {k : Nat} {x : OpP} (h : l[k]? = some x) : l.drop k = x :: l.drop (k + 1) := by
  obtain ⟨hk, he⟩ := List.getElem?_eq_some_iff.1 h
  rw [List.drop_eq_getElem_cons hk, he]
set_option maxRecDepth 100000 in
set_option maxHeartbeats 4000000 in
theorem steps_any : ∀ (n : Nat) (l : List OpP) (a : Option Addr) (c : Nat) (w : World), l.length ≤ n → l.length ≤ 64 → Lam l → Times l → Rd w 5 a l.length c (opsV l) →
    Calls Tryd.prog 11 #[.slice a l.length c] w fun e V => e = .returned (.int .i64 (stepsP l)) ∧ Below w.heap.size w V := by
  intro n
  induction n with
  | zero =>
    intro l a c w hn _ _ _ _
    obtain rfl : l = [] := List.eq_nil_of_length_eq_zero (by omega)
    go_enter Tryd.func11, Tryd.ntmps11
    go_wp2
    go_loopw [3, 4] (fun s i wr => wr = w ∧ s = .int .i64 0 ∧ i = .int .i64 0) (fun _ _ _ => 0)
    case atStart => exact ⟨rfl, rfl, rfl⟩
    case round =>
      obtain ⟨rfl, rfl, rfl⟩ := hrel
      go_wp2
      go_ret
      exact ⟨rfl, Below.refl _ _⟩
  | succ n ih =>
    intro l a c w hn h64 hLam hT hrd
    have hcl : l.length ≤ c := hrd.le
    have HR := Lib.hid hrd
    have HLam := Lib.hid hLam
    have HT := Lib.hid hT
    clear hrd hLam hT
    have HIH := Lib.hid ih
    clear ih
    go_enter Tryd.func11, Tryd.ntmps11
    go_wp2
    go_loopw [3, 4] (fun s i wr => ∃ (k : Nat) (v : Int), k ≤ l.length ∧ i = .int .i64 k ∧ s = .int .i64 v ∧ 0 ≤ v ∧ v ≤ 200000 * k ∧ Hid (Below w.heap.size w wr ∧ v + stepsL (l.drop k) = stepsL l)) (fun _ i _ => l.length - (intP i).toNat)
    case atStart => exact ⟨0, 0, by omega, rfl, rfl, by omega, by omega, Lib.hid ⟨Below.refl _ _, by rw [List.drop_zero, Int.zero_add]⟩⟩
    case round =>
      obtain ⟨k, v, hk, rfl, rfl, v0, v1, HB⟩ := hrel
      obtain ⟨wo, rfl⟩ : ∃ wo : World, wo = wr := ⟨_, rfl⟩
      by_cases hlt : k < l.length
      · obtain ⟨x, hx⟩ : ∃ x, l[k]? = some x := ⟨_, List.getElem?_eq_getElem hlt⟩
        have hHx := Lib.hid hx
        have HRo := Lib.hid (HR.out.later HB.out.1)
        obtain ⟨b, o, rfl, hc⟩ := op_at HRo.out hx
        have c0 := hc 0 _ (by omega) rfl
        have c1 := hc 1 _ (by omega) rfl
        have c2 := hc 2 _ (by omega) rfl
        have c3 := hc 3 _ (by omega) rfl
        have c4 := hc 4 _ (by omega) rfl
        rw [Nat.add_zero] at c0
        have k0 : (0 : Int) ≤ (k : Int) := by omega
        have k1 : (k : Int) < (l.length : Int) := by omega
        have v2 : v ≤ 12800000 := by omega
        clear hc hx
        go_upto_region 6 with (fail)
        apply wp_lift
        intro V hV
        have hbV : Below wo.heap.size wo V := by rw [hV]; exact al1 _ _
        have hop : OpAt V wo.heap.size x := by rw [hV]; exact OpAt.box wo x 28
        have hsV : V.heap.size = wo.heap.size + 1 := by rw [hV]; simp
        have d0 : V.cell? ⟨wo.heap.size, 0, none⟩ = some (.int .i64 x.1) := hop 0 _ (by omega) rfl
        have d3 : V.cell? ⟨wo.heap.size, 3, none⟩ = some (.int .i64 x.2.2.2.1) := hop 3 _ (by omega) rfl
        have d4 : V.cell? ⟨wo.heap.size, 4, none⟩ = some (.int .i64 x.2.2.2.2) := hop 4 _ (by omega) rfl
        have HV := Lib.hid hbV
        clear hV hop hbV c0 c1 c2 c3 c4
        by_cases he : x.1 = 14
        · rw [he] at d0
          have hN := HLam.out.hold k x hHx.out (loop_holds he)
          have hC := HT.out x (List.mem_of_getElem? hHx.out) he
          have hcut := HLam.out.cut hHx.out (loop_holds he)
          obtain ⟨P, hP⟩ : ∃ P : Nat, x.2.2.2.2 = P := ⟨x.2.2.2.2.toNat, by omega⟩
          rw [hP] at d4 hN hcut
          rw [Int.toNat_natCast] at hcut
          obtain ⟨C, hCe⟩ : ∃ C : Int, x.2.2.2.1 = C := ⟨_, rfl⟩
          rw [hCe] at d3 hC
          obtain ⟨lb, hlb⟩ : ∃ lb, lb = (l.drop (k + 1)).take P := ⟨_, rfl⟩
          rw [← hlb] at hcut
          have hlbl : lb.length = P := by rw [hlb, List.length_take, List.length_drop]; omega
          obtain ⟨sa, hsl, hs1, hs2⟩ := slice_mid (P := Tryd.prog) 22 Tryd.underlying22 5 Tryd.sizeOf28 (some ⟨b, o, none⟩) l.length c (k + 1) (k + 1 + P) (by omega) (by omega)
          rw [show ((k + 1 + P : Nat) : Int) = (k : Int) + 1 + P by omega, show ((k + 1 : Nat) : Int) = (k : Int) + 1 by omega, Nat.add_sub_cancel_left] at hsl
          obtain ⟨S, hS⟩ : ∃ S : Int, stepsP lb = S := ⟨_, rfl⟩
          have hTb : Times lb := HT.out.sub fun y hy => by rw [hlb] at hy; exact List.mem_of_mem_drop (List.mem_of_mem_take hy)
          have hS0 : 0 ≤ S := by rw [← hS, stepsP_eq]; have := stepsL_nonneg hTb; omega
          have hS1 : S ≤ 10001 := by rw [← hS, stepsP_eq]; omega
          have HC : Hid (∀ W, Below V.heap.size V W → Calls Tryd.prog 11 #[.slice sa P (c - (k + 1))] W fun e U => e = .returned (.int .i64 S) ∧ Below W.heap.size W U) := Lib.hid (fun W hb => by
            have h1 := Rd.cut ((HRo.out.later HV.out).later hb) (k + 1) (k + 1 + P) (by omega) (by omega) hs1 hs2
            rw [Nat.add_sub_cancel_left, opsV_drop, opsV_take, ← hlb] at h1
            have h2 := HIH.out lb sa (c - (k + 1)) W (by omega) (by omega) hcut hTb (by rw [hlbl]; exact h1)
            rw [hlbl, hS] at h2
            exact h2)
          have HE : Hid (v + 1 + C * (1 + S) + stepsL (l.drop (k + P + 1)) = stepsL l) := Lib.hid (by
            rw [← HB.out.2, drop_get hHx.out, stepsL_cons, if_pos he, hP, hCe, Int.toNat_natCast, ← hlb, ← stepsP_eq, hS, List.drop_drop, show k + 1 + P = k + P + 1 by omega]
            omega)
          have m0 : 0 ≤ C * (1 + S) := Int.mul_nonneg hC.1 (by omega)
          have m1 : C * (1 + S) ≤ 16 * 10002 := Int.mul_le_mul hC.2 (by omega) (by omega) (by omega)
          have q1 : (k : Int) + 1 + P ≤ 64 := by omega
          have kp : k + P < l.length := by omega
          have C0 := hC.1
          have C1 := hC.2
          have HSL := Lib.hid (And.intro hs1 hs2)
          clear hs1 hs2 hcut hTb hS hlb hP hCe hC hN he
          have p0 : (0 : Int) ≤ (P : Int) := by omega
          have HD := Lib.hid (And.intro d3 d4)
          have w1 : IntKind.i64.wrap ((k : Int) + 1) = (k : Int) + 1 := by rw [IntKind.wrap_i64]; omega
          have w2 : IntKind.i64.wrap ((k : Int) + 1 + P) = (k : Int) + 1 + P := by rw [IntKind.wrap_i64]; omega
          have w3 : IntKind.i64.wrap (1 + S) = 1 + S := by rw [IntKind.wrap_i64]; omega
          have w4 : IntKind.i64.wrap (C * (1 + S)) = C * (1 + S) := by rw [IntKind.wrap_i64]; omega
          have w5 : IntKind.i64.wrap (v + 1 + C * (1 + S)) = v + 1 + C * (1 + S) := by rw [IntKind.wrap_i64]; omega
          have w6 : IntKind.i64.wrap ((k : Int) + P) = (k : Int) + P := by rw [IntKind.wrap_i64]; omega
          go_wp2
          clear d0 d3 d4
          go_region_held3 (fun W => W.cell? ⟨wo.heap.size, 3, none⟩ = some (.int .i64 C) ∧ W.cell? ⟨wo.heap.size, 4, none⟩ = some (.int .i64 P))
            (first | exact HD.out | exact y0)
            ((go_at_call 11; refine (HC.out _ (by first | exact Below.refl _ _ | exact (Below.refl _ _).drew)).mono ?_; rintro e W ⟨rfl, hbW⟩; have y0 : W.cell? ⟨wo.heap.size, 3, none⟩ = some (.int .i64 C) ∧ W.cell? ⟨wo.heap.size, 4, none⟩ = some (.int .i64 P) := ⟨old_cellP HD.out.1 (by first | exact hbW | exact (Below.refl _ _).drew.trans hbW), old_cellP HD.out.2 (by first | exact hbW | exact (Below.refl _ _).drew.trans hbW)⟩; have HW : Hid (Below V.heap.size V W) := (by first | exact hbW | exact (Below.refl _ _).drew.trans hbW); clear hbW))
          all_goals
            have y4 := y0.2
            go_wp2
            go_roundw
            case rel => exact ⟨k + P + 1, v + 1 + C * (1 + S), by omega, by go_num, by go_num, by omega, by omega, Lib.hid ⟨HB.out.1.trans ((HV.out.trans (HW.out.mono (by omega))).mono HB.out.1.size), HE.out⟩⟩
            case measure => simp [intP]; omega
        · have HE : Hid (v + 1 + stepsL (l.drop (k + 1)) = stepsL l) := Lib.hid (by
            rw [← HB.out.2, drop_get hHx.out, stepsL_cons, if_neg he]
            omega)
          go_wp2
          go_roundw
          case rel => exact ⟨k + 1, v + 1, by omega, by go_num, rfl, by omega, by omega, Lib.hid ⟨HB.out.1.trans (HV.out.mono HB.out.1.size), HE.out⟩⟩
          case measure => simp [intP]; omega
      · obtain rfl : k = l.length := by omega
        go_wp2
        go_ret
        have h1 := HB.out.2
        rw [List.drop_length] at h1
        have h2 : stepsL [] = 0 := rfl
        refine ⟨?_, HB.out.1⟩
        rw [stepsP_eq, ← h1, h2, Int.add_zero]
        rfl
end Pc
end Go.Proofs.YtgoegdlhbadlfaaDoor
