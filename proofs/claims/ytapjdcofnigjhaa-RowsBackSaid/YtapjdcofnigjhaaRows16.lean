/- The document's Decode of a row. -/
import Derived.Test.YtapjdcofnigjhaaRows15
namespace Go.Proofs.Ytapjdcofnigjhaa
open Go.RowKit
theorem RowVar.over {w : World} {r : Nat} {l : List Int} {v0 : Int} (h : RowVar w r (l ++ [v0])) (hl : l.length < 4) (v : Int) : RowVar (w.setCell ⟨r, l.length, none⟩ (.int .i64 v)) r (l ++ [v]) ∧ Fr (fun k _ => k = r) w (w.setCell ⟨r, l.length, none⟩ (.int .i64 v)) := by
  have hf : Fr (fun k o => k = r ∧ o = l.length) w (w.setCell ⟨r, l.length, none⟩ (.int .i64 v)) := (Fr.refl _ w).setCell (.inl ⟨rfl, rfl⟩) _
  refine ⟨fun i hi => ⟨?_, by rw [World.frozen?_setCell]; exact (h i hi).2⟩, hf.mono (fun _ _ h => h.1)⟩
  rw [getD_snoc]
  by_cases e : i = l.length
  · subst e
    rw [if_pos rfl]
    exact World.cell?_setCell_same _ _ _ (h l.length hi).1
  · rw [if_neg e]
    have h1 := (h i hi).1
    rw [getD_snoc, if_neg e] at h1
    exact cell_fr hf h1 (fun h => e h.2)
/-- Where the document's Decode stands. -/
structure Ek (w0 w : World) (p r : Nat) (B : List UInt8) (k at_ : Nat) (l : List Int) : Prop where
  dec : Fd.dec B k = some (at_, l)
  len : l.length = k
  le : at_ ≤ B.length
  row : RowVar w r l
  res : RowVar w p []
  low : Below w0.heap.size w0 w
  p0 : w0.heap.size ≤ p
  r0 : w0.heap.size ≤ r
  pr : p ≠ r
theorem Ek.put {w0 w w2 : World} {p r : Nat} {B : List UInt8} {k at_ at2 : Nat} {l : List Int} {v : Int} (h : Ek w0 w p r B k at_ l) (hd : Fd.dec B (k + 1) = some (at2, l ++ [v])) (hle : at2 ≤ B.length) (hlo : Below w0.heap.size w0 w2) (hr : RowVar w2 r (l ++ [v])) (hp : RowVar w2 p []) : Ek w0 w2 p r B (k + 1) at2 (l ++ [v]) :=
  ⟨hd, by rw [List.length_append, h.len]; rfl, hle, hr, hp, hlo, h.p0, h.r0, h.pr⟩
theorem Ek.later {w0 w w2 : World} {p r : Nat} {B : List UInt8} {k at_ : Nat} {l : List Int} (h : Ek w0 w p r B k at_ l) (hb : Below w.heap.size w w2) : Ek w0 w2 p r B k at_ l :=
  ⟨h.dec, h.len, h.le, h.row.later hb, h.res.later hb, h.low.trans (hb.mono h.low.size), h.p0, h.r0, h.pr⟩
set_option maxRecDepth 100000 in
set_option maxHeartbeats 4000000 in
theorem refDecode (a1 : Option Addr) (c1 : Nat) (B : List UInt8) (hl : B.length ≤ 1000000) (w : World) (h : RdB w a1 c1 B) :
    Calls Try.prog 38 #[.slice a1 B.length c1] w fun e w' => e = .returned (.tuple #[lRow (Fd.rowL (Fd.row B)), .bool (Fd.row B).isSome]) ∧ Below w.heap.size w w' := by
  obtain ⟨D, hD⟩ : ∃ D, Fd.row B = D := ⟨_, rfl⟩
  rw [hD]
  have HD := Lib.hid hD
  have HB := Lib.hid (fun W => RdB.later h (w' := W))
  have H0 := Lib.hid (show Rd w 1 a1 B.length c1 (bytesV B) from h)
  have HK : Hid (Ek w ((w.alloc (.cells #[.int .i64 0, .int .i64 0, .int .i64 0, .int .i64 0] 23)).alloc (.cells #[.int .i64 0, .int .i64 0, .int .i64 0, .int .i64 0] 23)) w.heap.size (w.heap.size + 1) B 0 0 []) := Lib.hid (by
    have h2 := RowVar.made (w.alloc (.cells #[.int .i64 0, .int .i64 0, .int .i64 0, .int .i64 0] 23)) 23
    rw [World.size_alloc] at h2
    exact ⟨rfl, rfl, Nat.zero_le _, h2, (RowVar.made w _).later (al1' _ _), (al1' w _).trans ((al1' _ _).mono (by simp)), Nat.le_refl _, by omega, by omega⟩)
  clear h hD
  go_enter Try.func38, Try.ntmps38
  go_wp2
  generalize (w.alloc (.cells #[.int .i64 0, .int .i64 0, .int .i64 0, .int .i64 0] 23)).alloc (.cells #[.int .i64 0, .int .i64 0, .int .i64 0, .int .i64 0] 23) = W1 at *
  go_loopw [5, 6] (fun p i wr => ∃ (k at_ : Nat) (l : List Int), k ≤ 4 ∧ i = .int .i64 k ∧ p = .int .i64 (at_ : Int) ∧ Hid (Ek w wr w.heap.size (w.heap.size + 1) B k at_ l)) (fun _ i _ => 4 - (intOf i).toNat)
  case atStart => exact ⟨0, 0, [], by omega, rfl, rfl, HK⟩
  case round =>
    clear HK
    obtain ⟨k, at_, l, hk, rfl, rfl, HS⟩ := hrel
    obtain ⟨wo, rfl⟩ : ∃ wo : World, wo = wr := ⟨_, rfl⟩
    have hat := HS.out.le
    by_cases hlt : k < 4
    · obtain ⟨sa, hsl, hsr⟩ := from_ex (P := Try.prog) 25 Try.underlying25 1 Try.sizeOf5 H0.out .i64 at_ hat
      have HRR0 : Hid (∀ W : World, Below w.heap.size w W → Calls Try.prog 32 #[.slice sa (B.length - at_) (c1 - at_)] W (GivesN W (Fd.parse 0 (B.drop at_)))) := Lib.hid (fun W hb => by
        have hs := hsr W (HB.out W hb)
        rw [Nat.mul_one, bytesV_drop] at hs
        have hs2 : RdB W sa (c1 - at_) (B.drop at_) := by unfold RdB; rw [List.length_drop]; exact hs
        have h := refRead_any sa (c1 - at_) (B.drop at_) (by rw [List.length_drop]; omega) W hs2
        rwa [List.length_drop] at h)
      obtain ⟨P, hP⟩ : ∃ P, Fd.parse 0 (B.drop at_) = P := ⟨_, rfl⟩
      have HP := Lib.hid hP
      rw [hP] at HRR0
      have k1 : (k : Int) < 4 := by omega
      have k0 : (0 : Int) ≤ (k : Int) := by omega
      have at0 : (0 : Int) ≤ (at_ : Int) := by omega
      have at1 : (at_ : Int) ≤ (B.length : Int) := by omega
      clear hP hsr
      cases P with
      | none =>
        have HN : Hid (D = none) := Lib.hid (by rw [← HD.out, Fd.row_none (Fd.dec_stop HS.out.dec HP.out hlt)])
        have HRR : Hid (∀ W : World, Below w.heap.size w W → Calls Try.prog 32 #[.slice sa (B.length - at_) (c1 - at_)] W fun e w' => e = .returned (numV 0 0 0) ∧ Below W.heap.size W w') := HRR0
        clear HRR0
        go_wp2_with (go_at_call 32; refine (HRR.out _ HS.out.low).mono ?_; rintro e w2 ⟨rfl, hb⟩; have HV := Lib.hid (HS.out.res.later hb); have H2 := Lib.hid (HS.out.low.trans (hb.mono HS.out.low.size)); have f00 := (HV.out 0 (by omega)).1; have f01 := (HV.out 0 (by omega)).2; have f10 := (HV.out 1 (by omega)).1; have f11 := (HV.out 1 (by omega)).2; have f20 := (HV.out 2 (by omega)).1; have f21 := (HV.out 2 (by omega)).2; have f30 := (HV.out 3 (by omega)).1; have f31 := (HV.out 3 (by omega)).2; have sz : w.heap.size < w2.heap.size := block_of_cell f00; clear hb)
        have t4 := four_set w2 w.heap.size [] (.int .i64 0) (.int .i64 0) (.int .i64 0) (.int .i64 0) HV.out
        refine bodyPost_ret (v := .tuple #[lRow [], .bool false]) (by
          have e0 := old_cell t4.1 (al1' _ (.cells #[.int .i64 0, .int .i64 0, .int .i64 0] 62))
          have e1 := old_cell t4.2.1 (al1' _ (.cells #[.int .i64 0, .int .i64 0, .int .i64 0] 62))
          have e2 := old_cell t4.2.2.1 (al1' _ (.cells #[.int .i64 0, .int .i64 0, .int .i64 0] 62))
          have e3 := old_cell t4.2.2.2 (al1' _ (.cells #[.int .i64 0, .int .i64 0, .int .i64 0] 62))
          simp [results, Try.results38, go_sem, e0, e1, e2, e3, lRow]) rfl ?_
        rw [HN.out]
        exact ⟨rfl, (((((H2.out.setCell (Nat.le_refl _) _).setCell (Nat.le_refl _) _).setCell (Nat.le_refl _) _).setCell (Nat.le_refl _) _)).trans ((al1' _ _).mono (by simp; omega))⟩
      | some q =>
        obtain ⟨m, kk⟩ := q
        have HNX := Lib.hid (Fd.dec_next HS.out.dec HP.out)
        obtain ⟨hmm, _, hkk1, hkk2, hkk3⟩ := Fd.parse_at HP.out
        rw [List.length_drop] at hkk2
        have hll := HS.out.len
        subst hll
        obtain ⟨h, hh⟩ : ∃ h, h = m / 2 := ⟨_, rfl⟩
        obtain ⟨q, hq⟩ : ∃ q, q = m % 2 := ⟨_, rfl⟩
        have hmq : 2 * h + q = m := by omega
        have hq1 : q ≤ 1 := by omega
        have HMQ := Lib.hid hmq
        have HHQ := Lib.hid (And.intro hh hq)
        have ks1 : (1 : Int) ≤ (kk : Int) := by omega
        have ks2 : (kk : Int) ≤ 10 := by omega
        have ks3 : (at_ : Int) + (kk : Int) ≤ (B.length : Int) := by omega
        have ks4 : ((kk : Int) == 0) = false := by simp; omega
        have hh2 : (h : Int) ≤ 9223372036854775807 := by omega
        by_cases hq0 : q = 0
        · obtain rfl : q = 0 := by omega
          have HRR : Hid (∀ W : World, Below w.heap.size w W → Calls Try.prog 32 #[.slice sa (B.length - at_) (c1 - at_)] W fun e w' => e = .returned (numV ((h : Int)) (0) ((kk : Int))) ∧ Below W.heap.size W w') := Lib.hid (fun W hb => by
            have h2 := HRR0.out W hb
            unfold GivesN at h2
            have e1 : (Fd.refN (some (m, kk))).1 = h := HHQ.out.1.symm
            have e2 : (Fd.refN (some (m, kk))).2.1 = 0 := HHQ.out.2.symm
            rw [e1, e2] at h2
            exact h2)
          have HZ : Hid (Fd.zag m = (h : Int)) := Lib.hid (by
            unfold Fd.zag
            have h3 := HMQ.out
            have h4 := HHQ.out
            split <;> omega)
          have hat2 : at_ + kk ≤ B.length := by omega
          clear HRR0 hmq hh hq hmm hkk1 hkk2 hkk3
          go_wp2_with (go_at_call 32; refine (HRR.out _ HS.out.low).mono ?_; rintro e w2 ⟨rfl, hb⟩; have HV := Lib.hid (HS.out.row.later hb); have H2 := Lib.hid (And.intro (HS.out.low.trans (hb.mono HS.out.low.size)) (HS.out.res.later hb)); have f0 := (HV.out l.length hlt).1; have f1 := (HV.out l.length hlt).2; have sz : w.heap.size + 1 < w2.heap.size := block_of_cell f0; clear hb)
          have HPU := Lib.hid (HV.out.put hlt (h : Int))
          have HK2 : Hid (Ek w (w2.setCell ⟨w.heap.size + 1, l.length, none⟩ (.int .i64 (h : Int))) w.heap.size (w.heap.size + 1) B (l.length + 1) (at_ + kk) (l ++ [(h : Int)])) := Lib.hid (HS.out.put (HZ.out ▸ HNX.out) hat2 (H2.out.1.trans (HPU.out.2.below H2.out.1.size (fun b o e => by subst e; exact HS.out.r0))) HPU.out.1 (H2.out.2.fr HPU.out.2 (fun _ e => HS.out.pr e)))
          go_roundw
          case rel => exact ⟨l.length + 1, at_ + kk, l ++ [(h : Int)], by omega, by go_num, by go_num, Lib.hid (HK2.out.later (al1' _ _))⟩
          case measure => simp [intOf]; omega


        · obtain rfl : q = 1 := by omega
          have HRR : Hid (∀ W : World, Below w.heap.size w W → Calls Try.prog 32 #[.slice sa (B.length - at_) (c1 - at_)] W fun e w' => e = .returned (numV ((h : Int)) (1) ((kk : Int))) ∧ Below W.heap.size W w') := Lib.hid (fun W hb => by
            have h2 := HRR0.out W hb
            unfold GivesN at h2
            have e1 : (Fd.refN (some (m, kk))).1 = h := HHQ.out.1.symm
            have e2 : (Fd.refN (some (m, kk))).2.1 = 1 := HHQ.out.2.symm
            rw [e1, e2] at h2
            exact h2)
          have HZ : Hid (Fd.zag m = -1 - (h : Int)) := Lib.hid (by
            unfold Fd.zag
            have h3 := HMQ.out
            have h4 := HHQ.out
            split <;> omega)
          have hat2 : at_ + kk ≤ B.length := by omega
          clear HRR0 hmq hh hq hmm hkk1 hkk2 hkk3
          go_wp2_with (go_at_call 32; refine (HRR.out _ HS.out.low).mono ?_; rintro e w2 ⟨rfl, hb⟩; have HV := Lib.hid (HS.out.row.later hb); have H2 := Lib.hid (And.intro (HS.out.low.trans (hb.mono HS.out.low.size)) (HS.out.res.later hb)); have f0 := (HV.out l.length hlt).1; have f1 := (HV.out l.length hlt).2; have sz : w.heap.size + 1 < w2.heap.size := block_of_cell f0; clear hb)
          have HPU0 := Lib.hid (HV.out.put hlt (h : Int))
          have HPU := Lib.hid (HPU0.out.1.over hlt (-1 - (h : Int)))
          have HR2 := Lib.hid ((H2.out.2.fr HPU0.out.2 (fun _ e => HS.out.pr e)).fr HPU.out.2 (fun _ e => HS.out.pr e))
          have HL2 := Lib.hid ((H2.out.1.trans (HPU0.out.2.below H2.out.1.size (fun b o e => by subst e; exact HS.out.r0))).trans (HPU.out.2.below (by rw [World.size_setCell]; exact H2.out.1.size) (fun b o e => by subst e; exact HS.out.r0)))
          have HK2 := Lib.hid (HS.out.put (HZ.out ▸ HNX.out) hat2 HL2.out HPU.out.1 HR2.out)
          go_roundw
          case rel => exact ⟨l.length + 1, at_ + kk, l ++ [-1 - (h : Int)], by omega, by go_num, by go_num, Lib.hid (HK2.out.later (al1' _ _))⟩
          case measure => simp [intOf]; omega
    · obtain rfl : k = 4 := by omega
      by_cases hatq : at_ = B.length
      · have HN : Hid (D = some l) := Lib.hid (by rw [← HD.out, Fd.row_some HS.out.dec hatq])
        obtain ⟨y0, hy0⟩ : ∃ y, l.getD 0 0 = y := ⟨_, rfl⟩
        obtain ⟨y1, hy1⟩ : ∃ y, l.getD 1 0 = y := ⟨_, rfl⟩
        obtain ⟨y2, hy2⟩ : ∃ y, l.getD 2 0 = y := ⟨_, rfl⟩
        obtain ⟨y3, hy3⟩ : ∃ y, l.getD 3 0 = y := ⟨_, rfl⟩
        have HY : Hid (lRow l = .agg #[.int .i64 y0, .int .i64 y1, .int .i64 y2, .int .i64 y3]) := Lib.hid (by unfold lRow; rw [hy0, hy1, hy2, hy3])
        have HRW : Hid (∀ W : World, RowVar W (w.heap.size + 1) l → W.cell? ⟨w.heap.size + 1, 0, none⟩ = some (.int .i64 y0) ∧ W.cell? ⟨w.heap.size + 1, 1, none⟩ = some (.int .i64 y1) ∧ W.cell? ⟨w.heap.size + 1, 2, none⟩ = some (.int .i64 y2) ∧ W.cell? ⟨w.heap.size + 1, 3, none⟩ = some (.int .i64 y3)) := Lib.hid (fun W h => ⟨hy0 ▸ (h 0 (by omega)).1, hy1 ▸ (h 1 (by omega)).1, hy2 ▸ (h 2 (by omega)).1, hy3 ▸ (h 3 (by omega)).1⟩)
        subst hatq
        have HV := Lib.hid HS.out.res
        have H2 := Lib.hid HS.out.low
        obtain ⟨g0, g1, g2, g3⟩ := HRW.out wo HS.out.row
        have f00 := (HV.out 0 (by omega)).1
        have f01 := (HV.out 0 (by omega)).2
        have f10 := (HV.out 1 (by omega)).1
        have f11 := (HV.out 1 (by omega)).2
        have f20 := (HV.out 2 (by omega)).1
        have f21 := (HV.out 2 (by omega)).2
        have f30 := (HV.out 3 (by omega)).1
        have f31 := (HV.out 3 (by omega)).2
        clear hy0 hy1 hy2 hy3 hat
        go_wp2_with (fail)
        have t4 := four_set wo w.heap.size [] (.int .i64 y0) (.int .i64 y1) (.int .i64 y2) (.int .i64 y3) HV.out
        refine bodyPost_ret (v := .tuple #[.agg #[.int .i64 y0, .int .i64 y1, .int .i64 y2, .int .i64 y3], .bool true]) (by simp [results, Try.results38, go_sem, t4.1, t4.2.1, t4.2.2.1, t4.2.2.2]) rfl ?_
        rw [HN.out, ← HY.out]
        exact ⟨rfl, ((((H2.out.setCell (Nat.le_refl _) _).setCell (Nat.le_refl _) _).setCell (Nat.le_refl _) _).setCell (Nat.le_refl _) _)⟩
      · have HN : Hid (D = none) := Lib.hid (by rw [← HD.out, Fd.row_more HS.out.dec hatq])
        have hne : ((at_ : Int) == (B.length : Int)) = false := by simp; omega
        have hpos2 : (at_ : Int) < (B.length : Int) := by omega
        have HV := Lib.hid HS.out.res
        have H2 := Lib.hid HS.out.low
        have f00 := (HV.out 0 (by omega)).1
        have f01 := (HV.out 0 (by omega)).2
        have f10 := (HV.out 1 (by omega)).1
        have f11 := (HV.out 1 (by omega)).2
        have f20 := (HV.out 2 (by omega)).1
        have f21 := (HV.out 2 (by omega)).2
        have f30 := (HV.out 3 (by omega)).1
        have f31 := (HV.out 3 (by omega)).2
        clear hatq hat
        go_wp2_with (fail)
        have t4 := four_set wo w.heap.size [] (.int .i64 0) (.int .i64 0) (.int .i64 0) (.int .i64 0) HV.out
        refine bodyPost_ret (v := .tuple #[lRow [], .bool false]) (by simp [results, Try.results38, go_sem, t4.1, t4.2.1, t4.2.2.1, t4.2.2.2, lRow]) rfl ?_
        rw [HN.out]
        exact ⟨rfl, ((((H2.out.setCell (Nat.le_refl _) _).setCell (Nat.le_refl _) _).setCell (Nat.le_refl _) _).setCell (Nat.le_refl _) _)⟩
end Go.Proofs.Ytapjdcofnigjhaa
