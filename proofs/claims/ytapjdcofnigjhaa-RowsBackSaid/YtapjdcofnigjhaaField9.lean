/- The document's reader of a number. -/
import Derived.Test.YtapjdcofnigjhaaField8
namespace Go.Proofs.Ytapjdcofnigjhaa
open Go.RowKit
abbrev numV (h o s : Int) : Value := .agg #[.int .i64 h, .int .i64 o, .int .i64 s]
/-- What the document's reader hands back. -/
def GivesN (w : World) (p : Option (Nat × Nat)) (e : Ending) (w' : World) : Prop :=
  e = .returned (numV ((Fd.refN p).1 : Nat) ((Fd.refN p).2.1 : Nat) ((Fd.refN p).2.2 : Nat)) ∧ Below w.heap.size w w'
namespace Fd
theorem val_step {bs : List UInt8} {j : Nat} {x : UInt8} (hj : 1 ≤ j) (hx : bs[j]? = some x) : val (bs.take (j + 1)) / 128 = val (bs.take j) / 128 + x.toNat % 128 * 128 ^ (j - 1) := by
  have hlt := (List.getElem?_eq_some_iff.1 hx).1
  rw [take_snoc' hx, val_snoc, List.length_take, Nat.min_eq_left (by omega)]
  obtain ⟨i, rfl⟩ : ∃ i, j = i + 1 := ⟨j - 1, by omega⟩
  rw [Nat.add_sub_cancel, Nat.pow_succ, ← Nat.mul_assoc, Nat.add_mul_div_right _ _ (by decide)]
theorem val_head {bs : List UInt8} {s : Nat} {x : UInt8} (hs : 1 ≤ s) (hx : bs[0]? = some x) : val (bs.take s) % 128 = x.toNat % 128 := by
  cases bs with
  | nil => cases hx
  | cons b bs =>
    simp at hx
    subst hx
    obtain ⟨i, rfl⟩ : ∃ i, s = i + 1 := ⟨s - 1, by omega⟩
    rw [List.take_succ_cons, val]
    omega
end Fd
/-- The step of the document's loop: the half, the place. -/
theorem half_step {bs : List UInt8} {s j : Nat} {x : UInt8} (hsl : s ≤ bs.length) (h10 : s ≤ 10) (h9 : s = 10 → ∀ x, bs[9]? = some x → x.toNat ≤ 1) (hj : 1 ≤ j) (hjs : j < s) (hx : bs[j]? = some x) (H p : Nat)
    (hH : H = Fd.val (bs.take j) / 128 * 64) (hp : p = 64 * 128 ^ (j - 1)) :
    H + x.toNat % 128 * p = Fd.val (bs.take (j + 1)) / 128 * 64 ∧ H + x.toNat % 128 * p < 9223372036854775808 := by
  have e : H + x.toNat % 128 * p = Fd.val (bs.take (j + 1)) / 128 * 64 := by
    rw [Fd.val_step hj hx, hH, hp, Nat.add_mul]
    congr 1
    rw [Nat.mul_comm 64, Nat.mul_assoc]
  have hb := Fd.val_bound (bs := bs) (s := j + 1) (by omega) (by omega) (fun e => by
    have : s = 10 := by omega
    exact h9 this)
  exact ⟨e, by rw [e]; omega⟩
theorem three_set (w : World) (B : Nat) (x y z : Value) (h0 : w.cell? ⟨B, 0, none⟩ = some (.int .i64 0)) (h1 : w.cell? ⟨B, 1, none⟩ = some (.int .i64 0)) (h2 : w.cell? ⟨B, 2, none⟩ = some (.int .i64 0)) :
    (((w.setCell ⟨B, 0, none⟩ x).setCell ⟨B, 1, none⟩ y).setCell ⟨B, 2, none⟩ z).cell? ⟨B, 0, none⟩ = some x ∧ (((w.setCell ⟨B, 0, none⟩ x).setCell ⟨B, 1, none⟩ y).setCell ⟨B, 2, none⟩ z).cell? ⟨B, 1, none⟩ = some y ∧
    (((w.setCell ⟨B, 0, none⟩ x).setCell ⟨B, 1, none⟩ y).setCell ⟨B, 2, none⟩ z).cell? ⟨B, 2, none⟩ = some z := by
  have a1 : (w.setCell ⟨B, 0, none⟩ x).cell? ⟨B, 1, none⟩ = some (.int .i64 0) := (World.cell?_setCell_other _ _ _ _ (by simp)).trans h1
  have a2 : (w.setCell ⟨B, 0, none⟩ x).cell? ⟨B, 2, none⟩ = some (.int .i64 0) := (World.cell?_setCell_other _ _ _ _ (by simp)).trans h2
  have a0 : (w.setCell ⟨B, 0, none⟩ x).cell? ⟨B, 0, none⟩ = some x := World.cell?_setCell_same _ _ _ h0
  have b0 : ((w.setCell ⟨B, 0, none⟩ x).setCell ⟨B, 1, none⟩ y).cell? ⟨B, 0, none⟩ = some x := (World.cell?_setCell_other _ _ _ _ (by simp)).trans a0
  have b1 : ((w.setCell ⟨B, 0, none⟩ x).setCell ⟨B, 1, none⟩ y).cell? ⟨B, 1, none⟩ = some y := World.cell?_setCell_same _ _ _ a1
  have b2 : ((w.setCell ⟨B, 0, none⟩ x).setCell ⟨B, 1, none⟩ y).cell? ⟨B, 2, none⟩ = some (.int .i64 0) := (World.cell?_setCell_other _ _ _ _ (by simp)).trans a2
  exact ⟨(World.cell?_setCell_other _ _ _ _ (by simp)).trans b0, (World.cell?_setCell_other _ _ _ _ (by simp)).trans b1, World.cell?_setCell_same _ _ _ b2⟩
theorem al1' (w : World) (o : Obj) : Below w.heap.size w (w.alloc o) := (Below.refl _ _).alloc (Nat.le_refl _) _
theorem wrap_half (H d p : Nat) (h : H + d % 128 * p < 9223372036854775808) : wrap64 ((H : Int) + wrap64 ((d : Int) % 128 * (p : Int))) = ((H + d % 128 * p : Nat) : Int) := by
  have e : (d : Int) % 128 * (p : Int) = ((d % 128 * p : Nat) : Int) := by push_cast; rfl
  rw [e]
  generalize d % 128 * p = q at *
  unfold wrap64
  omega
theorem refGroupsI (x y : Int) (h o : Nat) (hx : x = (h : Int)) (hy : y = (o : Int)) (hh : h < 9223372036854775808) (ho : o ≤ 1) (w : World) :
    Calls Try.prog 43 #[.int .i64 x, .int .i64 y] w fun e w' => GivesB w (Fd.grp (2 * h + o)) e w' := by
  subst hx hy
  exact refGroups h o hh ho w
set_option maxRecDepth 100000 in
set_option maxHeartbeats 4000000 in
theorem refRead_any (a : Option Addr) (c : Nat) (bs : List UInt8) (hl : bs.length ≤ 1000000) (w : World) (h : RdB w a c bs) :
    Calls Try.prog 32 #[.slice a bs.length c] w (GivesN w (Fd.parse 0 bs)) := by
  rw [← Fd.refP_eq]
  generalize hP : Fd.refP bs = P
  have HP := Lib.hid hP
  have HB := Lib.hid (fun W => RdB.later h (w' := W))
  have HW0 := Lib.hid ((Below.refl w.heap.size w).alloc (Nat.le_refl _) (.cells #[.int .i64 0, .int .i64 0, .int .i64 0] 62))
  clear h hP
  go_enter Try.func32, Try.ntmps32
  go_wp2
  go_loopw [3] (fun i wr => ∃ (k : Nat), k ≤ Fd.lead bs ∧ i = .int .i64 k ∧ wr = w.alloc (.cells #[.int .i64 0, .int .i64 0, .int .i64 0] 62)) (fun i _ => Fd.lead bs - (intOf i).toNat)
  case atStart => exact ⟨0, by omega, rfl, rfl⟩
  case round =>
    obtain ⟨k, hk, rfl, rfl⟩ := hrel
    have hll := Fd.lead_le bs
    have k0 : (0 : Int) ≤ (k : Int) := by omega
    by_cases hlt : k < Fd.lead bs
    · obtain ⟨x, hx, hx128⟩ := Fd.lead_at bs k hlt
      have hkl := (List.getElem?_eq_some_iff.1 hx).1
      obtain ⟨b, o, rfl, x0⟩ := (HB.out _ HW0.out).at k x hx
      have k1 : (k : Int) < (bs.length : Int) := by omega
      have d1 : decide ((k : Int) < (bs.length : Int)) = true := by simp; omega
      have hxi : (128 : Int) ≤ (x.toNat : Int) := by omega
      clear hx
      go_wp2
      go_roundw
      case rel => exact ⟨k + 1, by omega, by go_num, by first | trivial | rfl⟩
      case measure => simp [intOf]; omega
    · obtain rfl : k = Fd.lead bs := by omega
      generalize hlead : Fd.lead bs = k at *
      have HLD := Lib.hid hlead
      clear hlead
      by_cases hkl : k < bs.length
      · obtain ⟨x, hx⟩ : ∃ x, bs[k]? = some x := ⟨_, List.getElem?_eq_getElem hkl⟩
        have hx127 : x.toNat < 128 := Fd.lead_end bs x (by rw [HLD.out]; exact hx)
        have HX := Lib.hid hx
        obtain ⟨b, o, rfl, x0⟩ := (HB.out _ HW0.out).at k x hx
        have k1 : (k : Int) < (bs.length : Int) := by omega
        have d1 : decide ((k : Int) < (bs.length : Int)) = true := by simp; omega
        have hxi : (x.toNat : Int) ≤ 127 := by omega
        clear hx
        by_cases h10 : k + 1 ≤ 10
        · by_cases h9 : k = 9 ∧ 1 < x.toNat
          · have HE : Hid (P = none) := Lib.hid (by
              rw [← HP.out]; unfold Fd.refP
              rw [HLD.out, if_neg (fun h => by
                have h2 := h.2.2.1 (by omega) x (by rw [← HX.out, h9.1])
                omega)])
            obtain ⟨rfl, h91⟩ := h9
            have x1 : (1 : Int) < (x.toNat : Int) := by omega
            go_wp2
            refine bodyPost_ret (v := numV 0 0 0) (by simp [results, Try.results32, go_sem]) rfl ?_
            rw [HE.out]
            exact ⟨rfl, HW0.out⟩
          · by_cases hk9 : k = 9
            · have hx1 : (x.toNat : Int) ≤ 1 := by omega
              have d10 : ((k : Int) + 1 == 10) = true := by simp; omega
              have hl9 : (9 : Int) < (bs.length : Int) := by omega
              have x9 : (w.alloc (.cells #[.int .i64 0, .int .i64 0, .int .i64 0] 62)).cell? ⟨b, o + 9, none⟩ = some (.int .u8 x.toNat) := by rw [← hk9]; exact x0
              have h9c : k + 1 = 10 → ∀ y, bs[9]? = some y → y.toNat ≤ 1 := fun _ y hy => by
                have h2 := HX.out
                rw [hk9, hy] at h2
                have := Option.some.inj h2
                subst this
                omega
              clear hk9
              have HC := Lib.hid h9c
              clear h9c
              go_wp2
              clear x0
              go_loopw [4, 5, 6] (fun h p j wr => ∃ (H p0 j0 : Nat), 1 ≤ j0 ∧ j0 ≤ k + 1 ∧ h = .int .i64 (H : Int) ∧ p = .int .i64 (p0 : Int) ∧ j = .int .i64 (j0 : Int) ∧ p0 ≤ 4611686018427387904 ∧ Hid (H = Fd.val (bs.take j0) / 128 * 64 ∧ (j0 ≤ 9 → p0 = 64 * 128 ^ (j0 - 1))) ∧ wr = w.alloc (.cells #[.int .i64 0, .int .i64 0, .int .i64 0] 62)) (fun _ _ j _ => k + 1 - (intOf j).toNat)
              case atStart => exact ⟨0, 64, 1, by omega, by omega, rfl, rfl, rfl, by omega, Lib.hid ⟨by
                have h1 := Fd.val_lt (bs.take 1)
                have h2 : (bs.take 1).length ≤ 1 := by rw [List.length_take]; omega
                have h3 : 128 ^ (bs.take 1).length ≤ 128 ^ 1 := Nat.pow_le_pow_right (by decide) h2
                omega, fun _ => rfl⟩, rfl⟩
              case round =>
                obtain ⟨H, p0, j, hj1, hjk, rfl, rfl, rfl, hp0, HH, rfl⟩ := hrel
                by_cases hjs : j < k + 1
                · obtain ⟨y, hy⟩ : ∃ y, bs[j]? = some y := ⟨_, List.getElem?_eq_getElem (by omega)⟩
                  obtain ⟨b', o', e', y0⟩ := (HB.out _ HW0.out).at j y hy
                  obtain ⟨rfl, rfl⟩ : b = b' ∧ o = o' := (by simp at e'; exact e')
                  have hst := half_step (bs := bs) (s := k + 1) (by omega) h10 HC.out hj1 hjs hy H p0 HH.out.1 (HH.out.2 (by omega))
                  have HST := Lib.hid hst
                  have j0 : (0 : Int) ≤ (j : Int) := by omega
                  have j1 : (j : Int) < (bs.length : Int) := by omega
                  have j2 : (j : Int) < (k : Int) + 1 := by omega
                  have hy255 : (y.toNat : Int) ≤ 255 := by have : y.toNat < 256 := y.toNat_lt; omega
                  have HWR := Lib.hid (wrap_half H y.toNat p0 hst.2)
                  clear hy e' hst
                  by_cases hj9 : j < 9
                  · have j9 : (j : Int) < 9 := by omega
                    have HP2 := Lib.hid (show p0 * 128 = 64 * 128 ^ (j + 1 - 1) by
                      rw [HH.out.2 (by omega), Nat.add_sub_cancel]
                      obtain ⟨i, rfl⟩ : ∃ i, j = i + 1 := ⟨j - 1, by omega⟩
                      rw [Nat.add_sub_cancel, Nat.pow_succ, Nat.mul_assoc])
                    have hp9 : p0 * 128 ≤ 4611686018427387904 := by
                      rw [HP2.out, Nat.add_sub_cancel]
                      exact Nat.le_trans (Nat.mul_le_mul_left 64 (Nat.pow_le_pow_right (by decide) (show j ≤ 8 by omega))) (by decide)
                    go_wp2
                    go_roundw
                    case rel => exact ⟨H + y.toNat % 128 * p0, p0 * 128, j + 1, by omega, by omega, by first | (rw [HWR.out]) | (refine congrArg _ ?_; push_cast; rfl), by go_num, by go_num, hp9, Lib.hid ⟨HST.out.1, fun _ => HP2.out⟩, by first | trivial | rfl⟩
                    case measure => simp [intOf]; omega
                  · have j9 : ¬ (j : Int) < 9 := by omega
                    go_wp2
                    go_roundw
                    case rel => exact ⟨H + y.toNat % 128 * p0, p0, j + 1, by omega, by omega, by first | (rw [HWR.out]) | (refine congrArg _ ?_; push_cast; rfl), rfl, by go_num, hp0, Lib.hid ⟨HST.out.1, fun h => by omega⟩, by first | trivial | rfl⟩
                    case measure => simp [intOf]; omega
                · obtain rfl : j = k + 1 := by omega
                  obtain ⟨z, hz⟩ : ∃ z, bs[0]? = some z := ⟨_, List.getElem?_eq_getElem (by omega)⟩
                  obtain ⟨b', o', e', z0⟩ := (HB.out _ HW0.out).at 0 z hz
                  obtain ⟨rfl, rfl⟩ : b = b' ∧ o = o' := (by simp at e'; exact e')
                  have hvb := Fd.val_bound (bs := bs) (s := k + 1) (by omega) h10 HC.out
                  have hvh := Fd.val_head (s := k + 1) (by omega) hz
                  have hH := HH.out.1
                  have hPe : P = if Fd.grp (Fd.val (bs.take (k + 1))) <+: bs then some (Fd.val (bs.take (k + 1)), k + 1) else none := by
                    rw [← HP.out]
                    unfold Fd.refP
                    rw [HLD.out]
                    by_cases hg : Fd.grp (Fd.val (bs.take (k + 1))) <+: bs
                    · rw [if_pos ⟨by omega, h10, HC.out, hg⟩, if_pos hg]
                    · rw [if_neg (fun h => hg h.2.2.2), if_neg hg]
                  generalize Fd.val (bs.take (k + 1)) = n at *
                  obtain ⟨hf, hhf⟩ : ∃ hf : Nat, hf = n / 2 := ⟨_, rfl⟩
                  obtain ⟨q, hq⟩ : ∃ q : Nat, q = n % 2 := ⟨_, rfl⟩
                  have hn : 2 * hf + q = n := by omega
                  have hz255 : z.toNat < 256 := z.toNat_lt
                  have hHb : H + 63 < 9223372036854775808 := by omega
                  have e1 : (H : Int) + (z.toNat : Int) % 128 / 2 = (hf : Int) := by omega
                  have e2 : (z.toNat : Int) % 128 % 2 = (q : Int) := by omega
                  have e3 : (z.toNat : Int) % 2 = (q : Int) := by omega
                  have HN := Lib.hid (And.intro hn (And.intro hPe (And.intro hhf hq)))
                  have hfl : hf < 9223372036854775808 := by omega
                  have hql : q ≤ 1 := by omega
                  have hgl := Fd.grp_ten hvb
                  simp only [Nat.add_zero] at z0
                  have HE12 := Lib.hid (And.intro e1 (And.intro e2 e3))
                  clear hz e' hvh hH hPe hhf hq hn e1 e2 e3 hvb
                  have HBB : Hid (∀ W3, Below ((w.alloc (.cells #[.int .i64 0, .int .i64 0, .int .i64 0] 62)).alloc (.cells #[.int .i64 ((H : Int) + (z.toNat : Int) % 128 / 2), .int .i64 ((z.toNat : Int) % 2), .int .i64 ((k : Int) + 1)] 62)).heap.size ((w.alloc (.cells #[.int .i64 0, .int .i64 0, .int .i64 0] 62)).alloc (.cells #[.int .i64 ((H : Int) + (z.toNat : Int) % 128 / 2), .int .i64 ((z.toNat : Int) % 2), .int .i64 ((k : Int) + 1)] 62)) W3 → Below w.heap.size w W3) := Lib.hid (fun W3 h3 => HW0.out.trans (((al1' _ _).mono (by simp)).trans (h3.mono (by simp; omega))))
                  obtain ⟨r, hr⟩ : ∃ r, decide (Fd.grp n <+: bs) = r := ⟨_, rfl⟩
                  have HRr := Lib.hid hr
                  clear hr
                  cases r with
                  | true =>
                    go_wp2_with (first
                      | (go_at_call 43; refine (refGroupsI _ _ hf q (by have := HE12.out; omega) (by have := HE12.out; omega) hfl hql _).mono ?_; rintro e w2 ⟨a2, c2, rfl, hr2, hb2⟩; rw [HN.out.1] at hr2 ⊢; have H2 := Lib.hid (And.intro hr2 hb2); clear hr2 hb2)
                      | (go_at_call 45; refine (refSame_any _ _ bs _ _ (Fd.grp n) hl (by omega) _ (RdB.later (HB.out _ HW0.out) ((al1' _ _).trans (H2.out.2.mono (by simp)))) H2.out.1).mono ?_; rintro e w3 ⟨rfl, hb3⟩; rw [HRr.out]; have H3 := Lib.hid (H2.out.2.trans (hb3.mono H2.out.2.size)); obtain ⟨hc3, hf3⟩ := bcell H3.out; clear hb3))
                    have t3 := three_set w3 w.heap.size (.int .i64 ((H : Int) + (z.toNat : Int) % 128 / 2)) (.int .i64 ((z.toNat : Int) % 2)) (.int .i64 ((k : Int) + 1)) ((hc3 _ 0 (by simp; omega)).trans (by simp)) ((hc3 _ 1 (by simp; omega)).trans (by simp)) ((hc3 _ 2 (by simp; omega)).trans (by simp))
                    refine bodyPost_ret (v := numV ((H : Int) + (z.toNat : Int) % 128 / 2) ((z.toNat : Int) % 2) ((k : Int) + 1)) (by simp [results, Try.results32, go_sem, t3.1, t3.2.1, t3.2.2]) rfl ?_
                    obtain ⟨g1, g2, g3, g4⟩ := HN.out
                    rw [if_pos (of_decide_eq_true HRr.out)] at g2
                    rw [g2]
                    refine ⟨?_, ((((HBB.out _ H3.out).setCell (Nat.le_refl _) _).setCell (Nat.le_refl _) _).setCell (Nat.le_refl _) _)⟩
                    obtain ⟨g5, g6, g7⟩ := HE12.out
                    show Ending.returned (numV _ _ _) = .returned (numV ((n / 2 : Nat) : Int) ((n % 2 : Nat) : Int) ((k + 1 : Nat) : Int))
                    rw [g5, g7, g3, g4]
                    rfl
                  | false =>
                    go_wp2_with (first
                      | (go_at_call 43; refine (refGroupsI _ _ hf q (by have := HE12.out; omega) (by have := HE12.out; omega) hfl hql _).mono ?_; rintro e w2 ⟨a2, c2, rfl, hr2, hb2⟩; rw [HN.out.1] at hr2 ⊢; have H2 := Lib.hid (And.intro hr2 hb2); clear hr2 hb2)
                      | (go_at_call 45; refine (refSame_any _ _ bs _ _ (Fd.grp n) hl (by omega) _ (RdB.later (HB.out _ HW0.out) ((al1' _ _).trans (H2.out.2.mono (by simp)))) H2.out.1).mono ?_; rintro e w3 ⟨rfl, hb3⟩; rw [HRr.out]; have H3 := Lib.hid (H2.out.2.trans (hb3.mono H2.out.2.size)); obtain ⟨hc3, hf3⟩ := bcell H3.out; clear hb3))
                    have t3 := three_set w3 w.heap.size (.int .i64 0) (.int .i64 0) (.int .i64 0) ((hc3 _ 0 (by simp; omega)).trans (by simp)) ((hc3 _ 1 (by simp; omega)).trans (by simp)) ((hc3 _ 2 (by simp; omega)).trans (by simp))
                    refine bodyPost_ret (v := numV 0 0 0) (by simp [results, Try.results32, go_sem, t3.1, t3.2.1, t3.2.2]) rfl ?_
                    obtain ⟨g1, g2, g3, g4⟩ := HN.out
                    rw [if_neg (of_decide_eq_false HRr.out)] at g2
                    rw [g2]
                    exact ⟨rfl, ((((HBB.out _ H3.out).setCell (Nat.le_refl _) _).setCell (Nat.le_refl _) _).setCell (Nat.le_refl _) _)⟩
            · have d10 : ((k : Int) + 1 == 10) = false := by simp; omega
              have h9c : k + 1 = 10 → ∀ y, bs[9]? = some y → y.toNat ≤ 1 := fun h => by omega
              have HC := Lib.hid h9c
              clear h9c
              go_wp2
              clear x0
              go_loopw [4, 5, 6] (fun h p j wr => ∃ (H p0 j0 : Nat), 1 ≤ j0 ∧ j0 ≤ k + 1 ∧ h = .int .i64 (H : Int) ∧ p = .int .i64 (p0 : Int) ∧ j = .int .i64 (j0 : Int) ∧ p0 ≤ 4611686018427387904 ∧ Hid (H = Fd.val (bs.take j0) / 128 * 64 ∧ (j0 ≤ 9 → p0 = 64 * 128 ^ (j0 - 1))) ∧ wr = w.alloc (.cells #[.int .i64 0, .int .i64 0, .int .i64 0] 62)) (fun _ _ j _ => k + 1 - (intOf j).toNat)
              case atStart => exact ⟨0, 64, 1, by omega, by omega, rfl, rfl, rfl, by omega, Lib.hid ⟨by
                have h1 := Fd.val_lt (bs.take 1)
                have h2 : (bs.take 1).length ≤ 1 := by rw [List.length_take]; omega
                have h3 : 128 ^ (bs.take 1).length ≤ 128 ^ 1 := Nat.pow_le_pow_right (by decide) h2
                omega, fun _ => rfl⟩, rfl⟩
              case round =>
                obtain ⟨H, p0, j, hj1, hjk, rfl, rfl, rfl, hp0, HH, rfl⟩ := hrel
                by_cases hjs : j < k + 1
                · obtain ⟨y, hy⟩ : ∃ y, bs[j]? = some y := ⟨_, List.getElem?_eq_getElem (by omega)⟩
                  obtain ⟨b', o', e', y0⟩ := (HB.out _ HW0.out).at j y hy
                  obtain ⟨rfl, rfl⟩ : b = b' ∧ o = o' := (by simp at e'; exact e')
                  have hst := half_step (bs := bs) (s := k + 1) (by omega) h10 HC.out hj1 hjs hy H p0 HH.out.1 (HH.out.2 (by omega))
                  have HST := Lib.hid hst
                  have j0 : (0 : Int) ≤ (j : Int) := by omega
                  have j1 : (j : Int) < (bs.length : Int) := by omega
                  have j2 : (j : Int) < (k : Int) + 1 := by omega
                  have hy255 : (y.toNat : Int) ≤ 255 := by have : y.toNat < 256 := y.toNat_lt; omega
                  have HWR := Lib.hid (wrap_half H y.toNat p0 hst.2)
                  clear hy e' hst
                  by_cases hj9 : j < 9
                  · have j9 : (j : Int) < 9 := by omega
                    have HP2 := Lib.hid (show p0 * 128 = 64 * 128 ^ (j + 1 - 1) by
                      rw [HH.out.2 (by omega), Nat.add_sub_cancel]
                      obtain ⟨i, rfl⟩ : ∃ i, j = i + 1 := ⟨j - 1, by omega⟩
                      rw [Nat.add_sub_cancel, Nat.pow_succ, Nat.mul_assoc])
                    have hp9 : p0 * 128 ≤ 4611686018427387904 := by
                      rw [HP2.out, Nat.add_sub_cancel]
                      exact Nat.le_trans (Nat.mul_le_mul_left 64 (Nat.pow_le_pow_right (by decide) (show j ≤ 8 by omega))) (by decide)
                    go_wp2
                    go_roundw
                    case rel => exact ⟨H + y.toNat % 128 * p0, p0 * 128, j + 1, by omega, by omega, by first | (rw [HWR.out]) | (refine congrArg _ ?_; push_cast; rfl), by go_num, by go_num, hp9, Lib.hid ⟨HST.out.1, fun _ => HP2.out⟩, by first | trivial | rfl⟩
                    case measure => simp [intOf]; omega
                  · have j9 : ¬ (j : Int) < 9 := by omega
                    go_wp2
                    go_roundw
                    case rel => exact ⟨H + y.toNat % 128 * p0, p0, j + 1, by omega, by omega, by first | (rw [HWR.out]) | (refine congrArg _ ?_; push_cast; rfl), rfl, by go_num, hp0, Lib.hid ⟨HST.out.1, fun h => by omega⟩, by first | trivial | rfl⟩
                    case measure => simp [intOf]; omega
                · obtain rfl : j = k + 1 := by omega
                  obtain ⟨z, hz⟩ : ∃ z, bs[0]? = some z := ⟨_, List.getElem?_eq_getElem (by omega)⟩
                  obtain ⟨b', o', e', z0⟩ := (HB.out _ HW0.out).at 0 z hz
                  obtain ⟨rfl, rfl⟩ : b = b' ∧ o = o' := (by simp at e'; exact e')
                  have hvb := Fd.val_bound (bs := bs) (s := k + 1) (by omega) h10 HC.out
                  have hvh := Fd.val_head (s := k + 1) (by omega) hz
                  have hH := HH.out.1
                  have hPe : P = if Fd.grp (Fd.val (bs.take (k + 1))) <+: bs then some (Fd.val (bs.take (k + 1)), k + 1) else none := by
                    rw [← HP.out]
                    unfold Fd.refP
                    rw [HLD.out]
                    by_cases hg : Fd.grp (Fd.val (bs.take (k + 1))) <+: bs
                    · rw [if_pos ⟨by omega, h10, HC.out, hg⟩, if_pos hg]
                    · rw [if_neg (fun h => hg h.2.2.2), if_neg hg]
                  generalize Fd.val (bs.take (k + 1)) = n at *
                  obtain ⟨hf, hhf⟩ : ∃ hf : Nat, hf = n / 2 := ⟨_, rfl⟩
                  obtain ⟨q, hq⟩ : ∃ q : Nat, q = n % 2 := ⟨_, rfl⟩
                  have hn : 2 * hf + q = n := by omega
                  have hz255 : z.toNat < 256 := z.toNat_lt
                  have hHb : H + 63 < 9223372036854775808 := by omega
                  have e1 : (H : Int) + (z.toNat : Int) % 128 / 2 = (hf : Int) := by omega
                  have e2 : (z.toNat : Int) % 128 % 2 = (q : Int) := by omega
                  have e3 : (z.toNat : Int) % 2 = (q : Int) := by omega
                  have HN := Lib.hid (And.intro hn (And.intro hPe (And.intro hhf hq)))
                  have hfl : hf < 9223372036854775808 := by omega
                  have hql : q ≤ 1 := by omega
                  have hgl := Fd.grp_ten hvb
                  simp only [Nat.add_zero] at z0
                  have HE12 := Lib.hid (And.intro e1 (And.intro e2 e3))
                  clear hz e' hvh hH hPe hhf hq hn e1 e2 e3 hvb
                  have HBB : Hid (∀ W3, Below ((w.alloc (.cells #[.int .i64 0, .int .i64 0, .int .i64 0] 62)).alloc (.cells #[.int .i64 ((H : Int) + (z.toNat : Int) % 128 / 2), .int .i64 ((z.toNat : Int) % 2), .int .i64 ((k : Int) + 1)] 62)).heap.size ((w.alloc (.cells #[.int .i64 0, .int .i64 0, .int .i64 0] 62)).alloc (.cells #[.int .i64 ((H : Int) + (z.toNat : Int) % 128 / 2), .int .i64 ((z.toNat : Int) % 2), .int .i64 ((k : Int) + 1)] 62)) W3 → Below w.heap.size w W3) := Lib.hid (fun W3 h3 => HW0.out.trans (((al1' _ _).mono (by simp)).trans (h3.mono (by simp; omega))))
                  obtain ⟨r, hr⟩ : ∃ r, decide (Fd.grp n <+: bs) = r := ⟨_, rfl⟩
                  have HRr := Lib.hid hr
                  clear hr
                  cases r with
                  | true =>
                    go_wp2_with (first
                      | (go_at_call 43; refine (refGroupsI _ _ hf q (by have := HE12.out; omega) (by have := HE12.out; omega) hfl hql _).mono ?_; rintro e w2 ⟨a2, c2, rfl, hr2, hb2⟩; rw [HN.out.1] at hr2 ⊢; have H2 := Lib.hid (And.intro hr2 hb2); clear hr2 hb2)
                      | (go_at_call 45; refine (refSame_any _ _ bs _ _ (Fd.grp n) hl (by omega) _ (RdB.later (HB.out _ HW0.out) ((al1' _ _).trans (H2.out.2.mono (by simp)))) H2.out.1).mono ?_; rintro e w3 ⟨rfl, hb3⟩; rw [HRr.out]; have H3 := Lib.hid (H2.out.2.trans (hb3.mono H2.out.2.size)); obtain ⟨hc3, hf3⟩ := bcell H3.out; clear hb3))
                    have t3 := three_set w3 w.heap.size (.int .i64 ((H : Int) + (z.toNat : Int) % 128 / 2)) (.int .i64 ((z.toNat : Int) % 2)) (.int .i64 ((k : Int) + 1)) ((hc3 _ 0 (by simp; omega)).trans (by simp)) ((hc3 _ 1 (by simp; omega)).trans (by simp)) ((hc3 _ 2 (by simp; omega)).trans (by simp))
                    refine bodyPost_ret (v := numV ((H : Int) + (z.toNat : Int) % 128 / 2) ((z.toNat : Int) % 2) ((k : Int) + 1)) (by simp [results, Try.results32, go_sem, t3.1, t3.2.1, t3.2.2]) rfl ?_
                    obtain ⟨g1, g2, g3, g4⟩ := HN.out
                    rw [if_pos (of_decide_eq_true HRr.out)] at g2
                    rw [g2]
                    refine ⟨?_, ((((HBB.out _ H3.out).setCell (Nat.le_refl _) _).setCell (Nat.le_refl _) _).setCell (Nat.le_refl _) _)⟩
                    obtain ⟨g5, g6, g7⟩ := HE12.out
                    show Ending.returned (numV _ _ _) = .returned (numV ((n / 2 : Nat) : Int) ((n % 2 : Nat) : Int) ((k + 1 : Nat) : Int))
                    rw [g5, g7, g3, g4]
                    rfl
                  | false =>
                    go_wp2_with (first
                      | (go_at_call 43; refine (refGroupsI _ _ hf q (by have := HE12.out; omega) (by have := HE12.out; omega) hfl hql _).mono ?_; rintro e w2 ⟨a2, c2, rfl, hr2, hb2⟩; rw [HN.out.1] at hr2 ⊢; have H2 := Lib.hid (And.intro hr2 hb2); clear hr2 hb2)
                      | (go_at_call 45; refine (refSame_any _ _ bs _ _ (Fd.grp n) hl (by omega) _ (RdB.later (HB.out _ HW0.out) ((al1' _ _).trans (H2.out.2.mono (by simp)))) H2.out.1).mono ?_; rintro e w3 ⟨rfl, hb3⟩; rw [HRr.out]; have H3 := Lib.hid (H2.out.2.trans (hb3.mono H2.out.2.size)); obtain ⟨hc3, hf3⟩ := bcell H3.out; clear hb3))
                    have t3 := three_set w3 w.heap.size (.int .i64 0) (.int .i64 0) (.int .i64 0) ((hc3 _ 0 (by simp; omega)).trans (by simp)) ((hc3 _ 1 (by simp; omega)).trans (by simp)) ((hc3 _ 2 (by simp; omega)).trans (by simp))
                    refine bodyPost_ret (v := numV 0 0 0) (by simp [results, Try.results32, go_sem, t3.1, t3.2.1, t3.2.2]) rfl ?_
                    obtain ⟨g1, g2, g3, g4⟩ := HN.out
                    rw [if_neg (of_decide_eq_false HRr.out)] at g2
                    rw [g2]
                    exact ⟨rfl, ((((HBB.out _ H3.out).setCell (Nat.le_refl _) _).setCell (Nat.le_refl _) _).setCell (Nat.le_refl _) _)⟩
        · have HE : Hid (P = none) := Lib.hid (by rw [← HP.out]; unfold Fd.refP; rw [if_neg (by rw [HLD.out]; omega)])
          have k2 : (k : Int) + 1 ≤ (bs.length : Int) := by omega
          have k3 : (10 : Int) < (k : Int) + 1 := by omega
          go_wp2
          refine bodyPost_ret (v := numV 0 0 0) (by simp [results, Try.results32, go_sem]) rfl ?_
          rw [HE.out]
          exact ⟨rfl, HW0.out⟩
      · have k1 : ¬ (k : Int) < (bs.length : Int) := by omega
        have d1 : decide ((k : Int) < (bs.length : Int)) = false := by simp; omega
        have k2 : (bs.length : Int) < (k : Int) + 1 := by omega
        have HE : Hid (P = none) := Lib.hid (by rw [← HP.out]; unfold Fd.refP; rw [if_neg (by rw [HLD.out]; omega)])
        go_wp2
        refine bodyPost_ret (v := numV 0 0 0) (by simp [results, Try.results32, go_sem]) rfl ?_
        rw [HE.out]
        exact ⟨rfl, HW0.out⟩
end Go.Proofs.Ytapjdcofnigjhaa
