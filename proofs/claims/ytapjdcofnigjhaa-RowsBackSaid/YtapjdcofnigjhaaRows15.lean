/- Package rows: Decode. -/
import Derived.Test.YtapjdcofnigjhaaRows14
namespace Go.Proofs.Ytapjdcofnigjhaa
open Go.RowKit
def rE : Option (List Int) → Int
  | none => 11
  | some _ => 0
theorem four_set (w : World) (B : Nat) (l : List Int) (x y z u : Value) (h : RowVar w B l) :
    ((((w.setCell ⟨B, 0, none⟩ x).setCell ⟨B, 1, none⟩ y).setCell ⟨B, 2, none⟩ z).setCell ⟨B, 3, none⟩ u).cell? ⟨B, 0, none⟩ = some x ∧ ((((w.setCell ⟨B, 0, none⟩ x).setCell ⟨B, 1, none⟩ y).setCell ⟨B, 2, none⟩ z).setCell ⟨B, 3, none⟩ u).cell? ⟨B, 1, none⟩ = some y ∧
    ((((w.setCell ⟨B, 0, none⟩ x).setCell ⟨B, 1, none⟩ y).setCell ⟨B, 2, none⟩ z).setCell ⟨B, 3, none⟩ u).cell? ⟨B, 2, none⟩ = some z ∧ ((((w.setCell ⟨B, 0, none⟩ x).setCell ⟨B, 1, none⟩ y).setCell ⟨B, 2, none⟩ z).setCell ⟨B, 3, none⟩ u).cell? ⟨B, 3, none⟩ = some u := by
  have h0 := (h 0 (by omega)).1
  have h1 := (h 1 (by omega)).1
  have h2 := (h 2 (by omega)).1
  have h3 := (h 3 (by omega)).1
  have a0 : (w.setCell ⟨B, 0, none⟩ x).cell? ⟨B, 0, none⟩ = some x := World.cell?_setCell_same _ _ _ h0
  have a1 := (World.cell?_setCell_other w ⟨B, 0, none⟩ ⟨B, 1, none⟩ x (by simp)).trans h1
  have a2 := (World.cell?_setCell_other w ⟨B, 0, none⟩ ⟨B, 2, none⟩ x (by simp)).trans h2
  have a3 := (World.cell?_setCell_other w ⟨B, 0, none⟩ ⟨B, 3, none⟩ x (by simp)).trans h3
  generalize w.setCell ⟨B, 0, none⟩ x = w1 at *
  have b0 := (World.cell?_setCell_other w1 ⟨B, 1, none⟩ ⟨B, 0, none⟩ y (by simp)).trans a0
  have b1 : (w1.setCell ⟨B, 1, none⟩ y).cell? ⟨B, 1, none⟩ = some y := World.cell?_setCell_same _ _ _ a1
  have b2 := (World.cell?_setCell_other w1 ⟨B, 1, none⟩ ⟨B, 2, none⟩ y (by simp)).trans a2
  have b3 := (World.cell?_setCell_other w1 ⟨B, 1, none⟩ ⟨B, 3, none⟩ y (by simp)).trans a3
  generalize w1.setCell ⟨B, 1, none⟩ y = w2 at *
  have c0 := (World.cell?_setCell_other w2 ⟨B, 2, none⟩ ⟨B, 0, none⟩ z (by simp)).trans b0
  have c1 := (World.cell?_setCell_other w2 ⟨B, 2, none⟩ ⟨B, 1, none⟩ z (by simp)).trans b1
  have c2 : (w2.setCell ⟨B, 2, none⟩ z).cell? ⟨B, 2, none⟩ = some z := World.cell?_setCell_same _ _ _ b2
  have c3 := (World.cell?_setCell_other w2 ⟨B, 2, none⟩ ⟨B, 3, none⟩ z (by simp)).trans b3
  generalize w2.setCell ⟨B, 2, none⟩ z = w3 at *
  exact ⟨(World.cell?_setCell_other w3 ⟨B, 3, none⟩ ⟨B, 0, none⟩ u (by simp)).trans c0, (World.cell?_setCell_other w3 ⟨B, 3, none⟩ ⟨B, 1, none⟩ u (by simp)).trans c1, (World.cell?_setCell_other w3 ⟨B, 3, none⟩ ⟨B, 2, none⟩ u (by simp)).trans c2, World.cell?_setCell_same _ _ _ c3⟩
/-- Where Decode stands: k numbers are read. -/
structure Dk (w0 w : World) (p r g : Nat) (a : Option Addr) (c : Nat) (B : List UInt8) (k at_ : Nat) (l : List Int) : Prop where
  dec : Fd.dec B k = some (at_, l)
  len : l.length = k
  rdr : Rdr w g a c B at_
  row : RowVar w r l
  res : RowVar w p []
  low : Below w0.heap.size w0 w
  p0 : w0.heap.size ≤ p
  r0 : w0.heap.size ≤ r
  g0 : w0.heap.size ≤ g
  pr : p ≠ r
  pg : p ≠ g
  rg : r ≠ g
  ra : B ≠ [] → ∀ x, a = some x → x.block ≠ r
theorem Fd.dec_len {B : List UInt8} (k : Nat) : ∀ at_ l, Fd.dec B k = some (at_, l) → l.length = k := by
  induction k with
  | zero => intro at_ l h; cases h; rfl
  | succ k ih =>
    intro at_ l h
    rw [Fd.dec] at h
    cases hd : Fd.dec B k with
    | none => rw [hd] at h; cases h
    | some p =>
      rw [hd] at h
      simp only at h
      cases hp : Fd.parse 0 (B.drop p.1) with
      | none => rw [hp] at h; cases h
      | some q =>
        rw [hp] at h
        cases h
        rw [List.length_append, ih p.1 p.2 hd]
        rfl
set_option maxRecDepth 100000 in
set_option maxHeartbeats 4000000 in
theorem rowsDecode (a1 : Option Addr) (c1 : Nat) (B : List UInt8) (hl : B.length ≤ 1000000) (w : World) (h : RdB w a1 c1 B) :
    Calls Try.prog 37 #[.slice a1 B.length c1] w fun e w' => e = .returned (.tuple #[lRow (Fd.rowL (Fd.row B)), .int .i64 (rE (Fd.row B))]) ∧ Below w.heap.size w w' := by
  obtain ⟨D, hD⟩ : ∃ D, Fd.row B = D := ⟨_, rfl⟩
  rw [hD]
  have HD := Lib.hid hD
  have HB := Lib.hid (fun W => RdB.later h (w' := W))
  have HP := Lib.hid (RowVar.made w 23)
  have HL := Lib.hid (al1' w (.cells #[.int .i64 0, .int .i64 0, .int .i64 0, .int .i64 0] 23))
  clear h hD
  go_enter Try.func37, Try.ntmps37
  go_wp2_with (go_at_call 31; refine (read_any a1 c1 B hl _ (HB.out _ HL.out)).mono ?_; rintro e w1 ⟨g, a3, c3, rfl, hr, hb, hg⟩; have H1 := Lib.hid (And.intro hr (And.intro hb hg)); clear hr hb hg)
  have HK : Hid (Dk w (w1.alloc (.cells #[.int .i64 0, .int .i64 0, .int .i64 0, .int .i64 0] 23)) w.heap.size w1.heap.size g a3 c3 B 0 0 []) := Lib.hid (by
    have hs : w.heap.size + 1 ≤ w1.heap.size := by have := H1.out.2.1.size; simpa using this
    have hg : w.heap.size + 1 ≤ g := by have := H1.out.2.2; simpa using this
    have hg2 : g < w1.heap.size := block_of_cell H1.out.1.i
    exact ⟨rfl, rfl, H1.out.1.later (al1' w1 _), RowVar.made w1 _, (HP.out.later H1.out.2.1).later (al1' w1 _), (HL.out.trans (H1.out.2.1.mono (by simp))).trans ((al1' w1 _).mono (by omega)), Nat.le_refl _, by omega, by omega, by omega, by omega, by omega, fun hne x hx e => by
      have := Rd.lt H1.out.1.rd x hx (bytesV_ne hne)
      omega⟩)
  clear HP HL HB
  generalize w1.heap.size = r at *
  generalize w1.alloc (.cells #[.int .i64 0, .int .i64 0, .int .i64 0, .int .i64 0] 23) = W1 at *
  clear H1
  go_loopw [14] (fun i wr => ∃ (k at_ : Nat) (l : List Int), k ≤ 4 ∧ i = .int .i64 k ∧ Hid (Dk w wr w.heap.size r g a3 c3 B k at_ l)) (fun i _ => 4 - (intOf i).toNat)
  case atStart => exact ⟨0, 0, [], by omega, rfl, HK⟩
  case round =>
    clear HK
    obtain ⟨k, at_, l, hk, rfl, HS⟩ := hrel
    obtain ⟨wo, rfl⟩ : ∃ wo : World, wo = wr := ⟨_, rfl⟩
    by_cases hlt : k < 4
    · obtain ⟨P, hP⟩ : ∃ P, Fd.parse 0 (B.drop at_) = P := ⟨_, rfl⟩
      have HRI := Lib.hid (rInt_any g a3 c3 B at_ hl wo HS.out.rdr P hP)
      have HP := Lib.hid hP
      have k1 : (k : Int) < 4 := by omega
      have k0 : (0 : Int) ≤ (k : Int) := by omega
      clear hP
      cases P with
      | none =>
        have HN : Hid (D = none) := Lib.hid (by rw [← HD.out, Fd.row_none (Fd.dec_stop HS.out.dec HP.out hlt)])
        go_wp2_with (go_at_call 34; refine HRI.out.mono ?_; rintro e w2 ⟨rfl, hr, hf⟩; have HV := Lib.hid (HS.out.res.fr hf (fun o e => HS.out.pg e.1)); have H2 := Lib.hid (HS.out.low.trans (hf.below HS.out.low.size (fun b o e => e.1 ▸ HS.out.g0))); have f00 := (HV.out 0 (by omega)).1; have f01 := (HV.out 0 (by omega)).2; have f10 := (HV.out 1 (by omega)).1; have f11 := (HV.out 1 (by omega)).2; have f20 := (HV.out 2 (by omega)).1; have f21 := (HV.out 2 (by omega)).2; have f30 := (HV.out 3 (by omega)).1; have f31 := (HV.out 3 (by omega)).2; clear hr hf)
        have t4 := four_set w2 w.heap.size [] (.int .i64 0) (.int .i64 0) (.int .i64 0) (.int .i64 0) HV.out
        refine bodyPost_ret (v := .tuple #[lRow [], .int .i64 11]) (by simp [results, Try.results37, go_sem, t4.1, t4.2.1, t4.2.2.1, t4.2.2.2, lRow, iE]) rfl ?_
        rw [HN.out]
        exact ⟨rfl, ((((H2.out.setCell (Nat.le_refl _) _).setCell (Nat.le_refl _) _).setCell (Nat.le_refl _) _).setCell (Nat.le_refl _) _)⟩
      | some q =>
        obtain ⟨m, cc⟩ := q
        have HNX := Lib.hid (Fd.dec_next HS.out.dec HP.out)
        have HRI2 : Hid (Calls Try.prog 34 #[.pointer (some ⟨g, 0, none⟩)] wo (OuterR wo g a3 c3 B (.int .i64 (Fd.zag m)) 0 (at_ + cc))) := HRI
        have hll := HS.out.len
        clear HRI
        subst hll
        go_wp2_with (go_at_call 34; refine HRI2.out.mono ?_; rintro e w2 ⟨rfl, hr, hf⟩; have HV := Lib.hid (HS.out.row.fr hf (fun o e => HS.out.rg e.1)); have H2 := Lib.hid (And.intro (HS.out.low.trans (hf.below HS.out.low.size (fun b o e => e.1 ▸ HS.out.g0))) (And.intro hr (HS.out.res.fr hf (fun o e => HS.out.pg e.1)))); have f0 := (HV.out l.length hlt).1; have f1 := (HV.out l.length hlt).2; clear hr hf)
        have HPU := Lib.hid (HV.out.put hlt (Fd.zag m))
        have HK2 : Hid (Dk w (w2.setCell ⟨r, l.length, none⟩ (.int .i64 (Fd.zag m))) w.heap.size r g a3 c3 B (l.length + 1) (at_ + cc) (l ++ [Fd.zag m])) := Lib.hid ⟨HNX.out, by rw [List.length_append]; rfl, H2.out.2.1.fr HPU.out.2 (fun _ e => HS.out.rg e.symm) (fun hne x hx _ e => HS.out.ra hne x hx e), HPU.out.1, H2.out.2.2.fr HPU.out.2 (fun _ e => HS.out.pr e), H2.out.1.trans (HPU.out.2.below H2.out.1.size (fun b o e => by subst e; exact HS.out.r0)), HS.out.p0, HS.out.r0, HS.out.g0, HS.out.pr, HS.out.pg, HS.out.rg, HS.out.ra⟩
        go_roundw
        case rel => exact ⟨l.length + 1, at_ + cc, l ++ [Fd.zag m], by omega, by go_num, HK2⟩
        case measure => simp [intOf]; omega
    · obtain rfl : k = 4 := by omega
      have hle := HS.out.rdr.le
      have HLF := Lib.hid (left_B g a3 c3 B at_ hl wo HS.out.rdr)
      by_cases hat : at_ = B.length
      · have HN : Hid (D = some l) := Lib.hid (by rw [← HD.out, Fd.row_some HS.out.dec hat])
        obtain ⟨y0, hy0⟩ : ∃ y, l.getD 0 0 = y := ⟨_, rfl⟩
        obtain ⟨y1, hy1⟩ : ∃ y, l.getD 1 0 = y := ⟨_, rfl⟩
        obtain ⟨y2, hy2⟩ : ∃ y, l.getD 2 0 = y := ⟨_, rfl⟩
        obtain ⟨y3, hy3⟩ : ∃ y, l.getD 3 0 = y := ⟨_, rfl⟩
        have HY : Hid (lRow l = .agg #[.int .i64 y0, .int .i64 y1, .int .i64 y2, .int .i64 y3]) := Lib.hid (by unfold lRow; rw [hy0, hy1, hy2, hy3])
        have HRW : Hid (∀ W : World, RowVar W r l → W.cell? ⟨r, 0, none⟩ = some (.int .i64 y0) ∧ W.cell? ⟨r, 1, none⟩ = some (.int .i64 y1) ∧ W.cell? ⟨r, 2, none⟩ = some (.int .i64 y2) ∧ W.cell? ⟨r, 3, none⟩ = some (.int .i64 y3)) := Lib.hid (fun W h => ⟨hy0 ▸ (h 0 (by omega)).1, hy1 ▸ (h 1 (by omega)).1, hy2 ▸ (h 2 (by omega)).1, hy3 ▸ (h 3 (by omega)).1⟩)
        subst hat
        clear hy0 hy1 hy2 hy3 hle
        go_wp2_with (go_at_call 36; refine HLF.out.mono ?_; rintro e w2 ⟨rfl, hb⟩; have HV := Lib.hid (HS.out.res.later hb); have H2 := Lib.hid (HS.out.low.trans (hb.mono HS.out.low.size)); obtain ⟨g0, g1, g2, g3⟩ := HRW.out w2 (HS.out.row.later hb); have f00 := (HV.out 0 (by omega)).1; have f01 := (HV.out 0 (by omega)).2; have f10 := (HV.out 1 (by omega)).1; have f11 := (HV.out 1 (by omega)).2; have f20 := (HV.out 2 (by omega)).1; have f21 := (HV.out 2 (by omega)).2; have f30 := (HV.out 3 (by omega)).1; have f31 := (HV.out 3 (by omega)).2; clear hb)
        have t4 := four_set w2 w.heap.size [] (.int .i64 y0) (.int .i64 y1) (.int .i64 y2) (.int .i64 y3) HV.out
        refine bodyPost_ret (v := .tuple #[.agg #[.int .i64 y0, .int .i64 y1, .int .i64 y2, .int .i64 y3], .int .i64 0]) (by simp [results, Try.results37, go_sem, t4.1, t4.2.1, t4.2.2.1, t4.2.2.2]) rfl ?_
        rw [HN.out, ← HY.out]
        exact ⟨rfl, ((((H2.out.setCell (Nat.le_refl _) _).setCell (Nat.le_refl _) _).setCell (Nat.le_refl _) _).setCell (Nat.le_refl _) _)⟩
      · have HN : Hid (D = none) := Lib.hid (by rw [← HD.out, Fd.row_more HS.out.dec hat])
        have hpos : (0 : Int) < (B.length : Int) - (at_ : Int) := by omega
        have hpos2 : (at_ : Int) < (B.length : Int) := by omega
        clear hat hle
        go_wp2_with (go_at_call 36; refine HLF.out.mono ?_; rintro e w2 ⟨rfl, hb⟩; have HV := Lib.hid (HS.out.res.later hb); have H2 := Lib.hid (HS.out.low.trans (hb.mono HS.out.low.size)); have f00 := (HV.out 0 (by omega)).1; have f01 := (HV.out 0 (by omega)).2; have f10 := (HV.out 1 (by omega)).1; have f11 := (HV.out 1 (by omega)).2; have f20 := (HV.out 2 (by omega)).1; have f21 := (HV.out 2 (by omega)).2; have f30 := (HV.out 3 (by omega)).1; have f31 := (HV.out 3 (by omega)).2; clear hb)
        have t4 := four_set w2 w.heap.size [] (.int .i64 0) (.int .i64 0) (.int .i64 0) (.int .i64 0) HV.out
        refine bodyPost_ret (v := .tuple #[lRow [], .int .i64 11]) (by simp [results, Try.results37, go_sem, t4.1, t4.2.1, t4.2.2.1, t4.2.2.2, lRow]) rfl ?_
        rw [HN.out]
        exact ⟨rfl, ((((H2.out.setCell (Nat.le_refl _) _).setCell (Nat.le_refl _) _).setCell (Nat.le_refl _) _).setCell (Nat.le_refl _) _)⟩
end Go.Proofs.Ytapjdcofnigjhaa
