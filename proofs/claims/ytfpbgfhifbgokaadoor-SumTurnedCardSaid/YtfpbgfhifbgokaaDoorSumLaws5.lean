/- The walks of the laws of package sum (fifth part): four bytes that are turned. -/
import Derived.Test.YtfpbgfhifbgokaaDoorSumLaws4
namespace Go.Proofs.YtfpbgfhifbgokaaDoor
open Go.RowKit

/-- The bytes, of which i behind place p are turned. -/
def chg (xs ts : List UInt8) (p i : Nat) : List UInt8 := xs.take p ++ (Crc.xors ((xs.drop p).take i) (ts.take i) ++ xs.drop (p + i))
theorem chg_zero (xs ts : List UInt8) (p : Nat) : chg xs ts p 0 = xs := by
  simp [chg, Crc.xors]
theorem chg_set (xs ts : List UInt8) (p i : Nat) (x y : UInt8) (hx : xs[p + i]? = some x) (hy : ts[i]? = some y) : (chg xs ts p i).set (p + i) (x ^^^ y) = chg xs ts p (i + 1) := by
  have hlt := (List.getElem?_eq_some_iff.1 hx).1
  have hlt2 := (List.getElem?_eq_some_iff.1 hy).1
  have hx2 : (xs.drop p)[i]? = some x := by rw [List.getElem?_drop]; exact hx
  have hd : xs.drop (p + i) = x :: xs.drop (p + (i + 1)) := by
    rw [List.drop_eq_getElem_cons hlt]
    have := (List.getElem?_eq_some_iff.1 hx).2
    rw [this]; rfl
  have l1 : (xs.take p).length = p := by rw [List.length_take]; omega
  have l2 : (Crc.xors ((xs.drop p).take i) (ts.take i)).length = i := by
    rw [Crc.xors_length _ _ (by simp; omega)]; simp; omega
  unfold chg
  rw [xors_take _ _ _ _ _ hx2 hy, hd, List.set_append_right (h := by omega), l1, show p + i - p = i by omega, List.set_append_right (h := by omega), l2, Nat.sub_self]
  simp
theorem chg_length (xs ts : List UInt8) (p i : Nat) (hp : p + i ≤ xs.length) (hi : i ≤ ts.length) : (chg xs ts p i).length = xs.length := by
  unfold chg
  rw [List.length_append, List.length_append, Crc.xors_length _ _ (by simp; omega)]
  simp; omega
/-- Turned bytes have another sum. -/
theorem chg_sum (xs ts : List UInt8) (p i : Nat) (hp : p + i ≤ xs.length) (hi : i ≤ ts.length) (h4 : i ≤ 4) (hz : ∃ b ∈ ts.take i, b ≠ 0) : Crc.sum 0 (chg xs ts p i) ≠ Crc.sum 0 xs := by
  have hb := Crc.burst (xs.take p) ((xs.drop p).take i) (xs.drop (p + i)) (ts.take i) (by simp; omega) (by simp; omega) hz
  have e : xs.take p ++ ((xs.drop p).take i ++ xs.drop (p + i)) = xs := by
    rw [← List.drop_drop, List.take_append_drop, List.take_append_drop]
  rw [e] at hb
  exact hb
/-- Is one of the first i not zero? -/
def turnedB (ts : List UInt8) (i : Nat) : Bool := (ts.take i).any fun b => b != 0
theorem turnedB_succ (ts : List UInt8) (i : Nat) (y : UInt8) (hy : ts[i]? = some y) : turnedB ts (i + 1) = (turnedB ts i || y != 0) := by
  unfold turnedB
  rw [List.take_add_one, hy]
  simp
theorem turnedB_some {ts : List UInt8} {i : Nat} (h : turnedB ts i = true) : ∃ b ∈ ts.take i, b ≠ 0 := by
  unfold turnedB at h
  obtain ⟨b, hb, hn⟩ := List.any_eq_true.1 h
  exact ⟨b, hb, by simpa using hn⟩
theorem bytesV_set (xs : List UInt8) (i : Nat) (x : UInt8) : (bytesV xs).set i (.int .u8 x.toNat) = bytesV (xs.set i x) := by
  simp [bytesV, List.map_set]
/-- What is turned is not sealed. -/
theorem opened_turned (xs cs : List UInt8) (h : Crc.sum 0 cs ≠ Crc.sum 0 xs) : opened (cs ++ Crc.four (Crc.sum 0 xs)) = ([], 12) := by
  have hb : body (cs ++ Crc.four (Crc.sum 0 xs)) = cs := by
    unfold body
    rw [List.length_append, show (Crc.four (Crc.sum 0 xs)).length = 4 from rfl, Nat.add_sub_cancel, List.take_left]
  unfold opened
  rw [if_neg (by rw [List.length_append, show (Crc.four (Crc.sum 0 xs)).length = 4 from rfl]; omega), if_neg (by
    rw [hb]
    unfold Crc.seal4
    intro he
    have := Crc.four_inj (by have := Crc.sum_le 0 xs; omega) (by have := Crc.sum_le 0 cs; omega) (List.append_cancel_left he)
    exact h this.symm)]
theorem seal4_drop (xs : List UInt8) : (Crc.seal4 xs).drop xs.length = Crc.four (Crc.sum 0 xs) := by
  unfold Crc.seal4
  rw [List.drop_left]

theorem seal_tail {w : World} {a : Option Addr} {c : Nat} {xs : List UInt8} {B : Nat} (hB : Crc.sum 0 xs = B) (h : Rd w 1 a (xs.length + 4) c (bytesV (Crc.seal4 xs))) :
    ∃ aF, (∀ wx : World, (Instr.slice 22 (.slice a (xs.length + 4) c) (some (.int .i64 (xs.length : Int))) none none).run Tryd.prog wx = .ok (.slice aF 4 (c - xs.length)) wx) ∧ Rd w 1 aF 4 (c - xs.length) (bytesV (Crc.four B)) := by
  have q := fun wx => run_slice_from (P := Tryd.prog) 22 Tryd.underlying22 1 Tryd.sizeByte a (xs.length + 4) c .i64 (xs.length : Int) xs.length rfl (by omega) wx
  have hr := Rd.from h xs.length (by omega)
  rw [Nat.add_sub_cancel_left] at q hr
  rw [Nat.mul_one, bytesV_drop, seal4_drop, hB] at hr
  exact ⟨_, q, by simpa using hr⟩

set_option maxRecDepth 100000 in
set_option maxHeartbeats 1000000 in
theorem turned_walk (a : Option Addr) (c : Nat) (xs : List UInt8) (at_ : Int) (t0 t1 t2 t3 : UInt8) (w : World)
    (hx : RdB w a c xs) (htab : Tab w) :
    Calls Tryd.prog 9 #[.slice a xs.length c, .int .i64 at_, .agg #[.int .u8 t0.toNat, .int .u8 t1.toNat, .int .u8 t2.toNat, .int .u8 t3.toNat]] w (Yes w) := by
  have HT := Lib.hid htab
  have Hx := Lib.hid hx
  have hle := hx.le
  unfold maxLen at hle
  clear hx htab
  by_cases hl : 300 < xs.length
  · go_enter Tryd.func9, Tryd.ntmps9
    go_wp2_with (go_at_call 10; refine (awake_any _ (HT.out.later ((Below.refl _ _).alloc (Nat.le_refl _) _))).mono ?_; rintro e w2 ⟨rfl, hb⟩)
    go_ret
    exact ⟨rfl, ((Below.refl _ _).alloc (Nat.le_refl _) _).trans (hb.mono (by simp))⟩
  by_cases hn : at_ < 0
  · go_enter Tryd.func9, Tryd.ntmps9
    go_wp2_with (go_at_call 10; refine (awake_any _ (HT.out.later ((Below.refl _ _).alloc (Nat.le_refl _) _))).mono ?_; rintro e w2 ⟨rfl, hb⟩)
    go_ret
    exact ⟨rfl, ((Below.refl _ _).alloc (Nat.le_refl _) _).trans (hb.mono (by simp))⟩
  by_cases hn2 : (xs.length : Int) ≤ at_
  · go_enter Tryd.func9, Tryd.ntmps9
    go_wp2_with (go_at_call 10; refine (awake_any _ (HT.out.later ((Below.refl _ _).alloc (Nat.le_refl _) _))).mono ?_; rintro e w2 ⟨rfl, hb⟩)
    go_ret
    exact ⟨rfl, ((Below.refl _ _).alloc (Nat.le_refl _) _).trans (hb.mono (by simp))⟩
  obtain ⟨p, rfl⟩ := Int.eq_ofNat_of_zero_le (show 0 ≤ at_ by omega)
  have hp : p < xs.length := by omega
  obtain ⟨i0, hi, hz0, hz1, hz2⟩ := info_parts Tryd.infoByte
  clear hn hn2
  obtain ⟨ts, hts⟩ : ∃ ts, ts = [t0, t1, t2, t3] := ⟨_, rfl⟩
  have htl : ts.length = 4 := by rw [hts]; rfl
  obtain ⟨W0, hW0⟩ : ∃ W0, W0 = w.alloc (.cells #[.int .u8 t0.toNat, .int .u8 t1.toNat, .int .u8 t2.toNat, .int .u8 t3.toNat] 37) := ⟨_, rfl⟩
  have hb0 : Below w.heap.size w W0 := by rw [hW0]; exact (Below.refl _ _).alloc (Nat.le_refl _) _
  have hsz : W0.heap.size = w.heap.size + 1 := by rw [hW0]; simp
  have hc0 : ∀ j y, ts[j]? = some y → W0.cell? ⟨w.heap.size, j, none⟩ = some (.int .u8 y.toNat) := by
    intro j y hy
    have hm := Rd.made w (bytesV ts) 37 1 4 (by rw [bytesV_length, htl]) (by decide) (bytesV_one _) (0, 0)
    have e : (bytesV ts).toArray = #[.int .u8 t0.toNat, .int .u8 t1.toNat, .int .u8 t2.toNat, .int .u8 t3.toNat] := by rw [hts]; rfl
    rw [e, ← hW0] at hm
    have := hm.cell _ rfl j _ (bytesV_get hy)
    rwa [Addr.add_lit, Nat.zero_add] at this
  have HB0 := Lib.hid hb0
  have HSZ := Lib.hid hsz
  have HC0 := Lib.hid hc0
  have HTL := Lib.hid htl
  have HW0 := Lib.hid hW0
  have HX0 := Lib.hid (Hx.out.later hb0)
  clear hb0 hsz hc0 htl hW0 hts
  have tok1 : True := trivial
  go_enter Tryd.func9, Tryd.ntmps9
  go_wp2_with (at_builtin; have _t := tok1; rw [← HW0.out]; refine wpList_app rfl _ _ 22 rfl W0.heap.size 5 i0 (.int .u8 0) 1 1 Tryd.underlying22 hi hz0 hz1 hz2 rfl (by decide) none 0 0 [] rfl (World.ownsRow_nil _ _ _ _) _ xs.length c (bytesV xs) rfl HX0.out (by unfold maxLen; omega) (by omega) (Nat.le_refl _) ?_; intro a1 c1 w1 hown1 hgrow1; clear tok1)
  simp only [Nat.zero_add, List.nil_append] at hown1
  have hB1 := (Below.refl W0.heap.size W0).grown hgrow1 (Nat.le_refl _) (by simp [Value.ownBlock])
  obtain ⟨g, rfl, hg⟩ : ∃ g, a1 = some ⟨g, 0, none⟩ ∧ W0.heap.size ≤ g := by
    rcases hown1.2 with ⟨h0, h1⟩ | ⟨g, cap, cur, h0, h1, _⟩
    · omega
    · cases h0; exact ⟨g, rfl, h1⟩
  have H1 := Lib.hid (And.intro hown1 hB1)
  clear hown1 hgrow1 hB1
  go_loopw [8, 9] (fun t i wr => ∃ k : Nat, k ≤ 4 ∧ p + k ≤ xs.length ∧ i = .int .i64 k ∧ t = .bool (turnedB ts k) ∧
    Hid (wr.ownsRow W0.heap.size 5 1 (.slice (some ⟨g, 0, none⟩) xs.length c1) xs.length (bytesV (chg xs ts p k)) ∧ Below W0.heap.size W0 wr)) (fun _ i _ => 4 - (intOf i).toNat)
  case atStart => exact ⟨0, by omega, by omega, rfl, rfl, by rw [chg_zero]; exact H1⟩
  case round =>
    obtain ⟨k, hk, hpk, rfl, rfl, HR⟩ := hrel
    by_cases hlt : k < 4 ∧ p + k < xs.length
    · obtain ⟨hlt1, hlt2⟩ := hlt
      obtain ⟨x, hx⟩ : ∃ x, xs[p + k]? = some x := ⟨_, List.getElem?_eq_getElem hlt2⟩
      obtain ⟨y, hy⟩ : ∃ y, ts[k]? = some y := ⟨_, List.getElem?_eq_getElem (by rw [HTL.out]; exact hlt1)⟩
      obtain ⟨b1, o1, rfl, hc1⟩ := RdB.at HX0.out (p + k) x hx
      have C1 := Lib.hid hc1
      have C2 := Lib.hid (HC0.out k y hy)
      have hxl := Crc.u8_lt x
      have hyl := Crc.u8_lt y
      have HS := Lib.hid (chg_set xs ts p k x y hx hy)
      have HT2 := Lib.hid (turnedB_succ ts k y hy)
      obtain ⟨v, xv, HV⟩ : ∃ v : UInt8, bits .xor .u8 (x.toNat : Int) (y.toNat : Int) = (v.toNat : Int) ∧ Hid (v = x ^^^ y) := ⟨_, by rw [u8_xor_nat _ _ hxl hyl, UInt8.toNat_xor], Lib.hid rfl⟩
      have hcl := chg_length xs ts p k hpk (by rw [HTL.out]; exact hk)
      obtain ⟨u0, hu0⟩ : ∃ u, (bytesV (chg xs ts p k))[p + k]? = some u := ⟨_, List.getElem?_eq_getElem (by rw [bytesV_length, hcl]; exact hlt2)⟩
      have hcg : wr.cell? ⟨g, p + k, none⟩ = some u0 := by rw [HR.out.1.cellAt (p + k) (by omega)]; exact hu0
      have hfg : wr.frozen? ⟨g, p + k, none⟩ = false := HR.out.1.frozenAt (p + k)
      have HST := Lib.hid (HR.out.1.stored (p + k) (.int .u8 v.toNat))
      clear hx hy hc1 hcl hu0
      have j0 : (0 : Int) ≤ (k : Int) := by omega
      have j1 : (k : Int) < 4 := by omega
      have j2 : (0 : Int) ≤ (p : Int) + (k : Int) := by omega
      have j3 : (p : Int) + (k : Int) < (xs.length : Int) := by omega
      have j4 : IntKind.i64.wrap ((p : Int) + (k : Int)) = (p : Int) + (k : Int) := IntWalk.i64_in _ (by omega)
      have j5 : ((p : Int) + (k : Int)).toNat = p + k := by omega
      have J4 := Lib.hid j4
      have J5 := Lib.hid j5
      clear j4 j5
      go_wp2
      have j4 := J4.out
      have j5 := J5.out
      go_region_held3 (fun W => W.cell? ⟨b1, o1 + (p + k), none⟩ = some (.int .u8 (x.toNat : Int)) ∧ W.cell? ⟨w.heap.size, k, none⟩ = some (.int .u8 (y.toNat : Int)))
        (first | exact ⟨old_cell C1.out HR.out.2.drew, old_cell C2.out HR.out.2.drew⟩ | exact ⟨old_cell C1.out (HR.out.2.drew.setCell (p := ⟨g, p + k, none⟩) hg _), old_cell C2.out (HR.out.2.drew.setCell (p := ⟨g, p + k, none⟩) hg _)⟩)
        (fail)
      clear j4 j5
      have HRD : Hid ((wr.setCell ⟨g, p + k, none⟩ (.int .u8 v.toNat)).drew.ownsRow W0.heap.size 5 1 (.slice (some ⟨g, 0, none⟩) xs.length c1) xs.length (bytesV (chg xs ts p (k + 1))) ∧ Below W0.heap.size W0 (wr.setCell ⟨g, p + k, none⟩ (.int .u8 v.toNat)).drew) := by
        have h1 := HST.out.1
        rw [bytesV_set, HV.out, HS.out] at h1
        rw [HV.out]
        exact Lib.hid ⟨h1.drew, (HR.out.2.setCell (p := ⟨g, p + k, none⟩) hg _).drew⟩
      clear HST
      by_cases htb : turnedB ts k = true
      · have hnext : Hid (turnedB ts (k + 1) = true) := Lib.hid (by rw [HT2.out, htb]; rfl)
        go_wp2
        go_roundw
        case rel => exact ⟨k + 1, by omega, by omega, by go_num, by rw [hnext.out], HRD⟩
        case measure => simp [intOf]; omega
      · have htb' : turnedB ts k = false := by simpa using htb
        clear htb
        by_cases hy0 : y = 0
        · have hnext : Hid (turnedB ts (k + 1) = false) := Lib.hid (by rw [HT2.out, htb', hy0]; rfl)
          have hd : ((y.toNat : Int) != 0) = false := by rw [hy0]; rfl
          clear hy0
          go_wp2
          go_roundw
          case rel => exact ⟨k + 1, by omega, by omega, by go_num, by rw [hnext.out], HRD⟩
          case measure => simp [intOf]; omega
        · have hnext : Hid (turnedB ts (k + 1) = true) := Lib.hid (by rw [HT2.out]; simp [hy0])
          have hd : ((y.toNat : Int) != 0) = true := by
            rw [bne_iff_ne]; intro h; exact hy0 (UInt8.toNat_inj.1 (by simpa using h))
          clear hy0
          go_wp2
          go_roundw
          case rel => exact ⟨k + 1, by omega, by omega, by go_num, by rw [hnext.out], HRD⟩
          case measure => simp [intOf]; omega
    · have hcl : (chg xs ts p k).length = xs.length := chg_length xs ts p k hpk (by rw [HTL.out]; exact hk)
      have HCL := Lib.hid hcl
      have hend : ¬ ((k : Int) < 4) ∨ ¬ ((p : Int) + (k : Int) < (xs.length : Int)) := by omega
      have hne := fun h => chg_sum xs ts p k hpk (by rw [HTL.out]; exact hk) hk (turnedB_some (ts := ts) h)
      have HNE := Lib.hid hne
      have hbw := HR.out.2.mono (B' := w.heap.size) (by rw [HSZ.out]; omega)
      have HBW := Lib.hid (HB0.out.trans hbw)
      have HOW := Lib.hid HR.out.1
      clear hcl hne hbw HR
      generalize chg xs ts p k = cs at *
      by_cases h4 : k < 4
      · have h5 : ¬ ((p : Int) + (k : Int) < (xs.length : Int)) := by omega
        by_cases htb : turnedB ts k = true
        · -- turned
          have hsne := HNE.out htb
          obtain ⟨A, hA, HA⟩ : ∃ A : Nat, A < 4294967296 ∧ Hid (Crc.sum 0 cs = A) := ⟨_, by have := Crc.sum_le 0 cs; omega, Lib.hid rfl⟩
          obtain ⟨B, hB, HBs⟩ : ∃ A : Nat, A < 4294967296 ∧ Hid (Crc.sum 0 xs = A) := ⟨_, by have := Crc.sum_le 0 xs; omega, Lib.hid rfl⟩
          have hd : (A != B) = true := by
            rw [bne_iff_ne, ← HA.out, ← HBs.out]; exact hsne
          have hd2 : ((A : Int) != (B : Int)) = true := by
            rw [bne_iff_ne]; intro h; rw [bne_iff_ne] at hd; exact hd (by omega)
          have hop := opened_turned xs cs hsne
          rw [HBs.out] at hop
          have HOP := Lib.hid hop
          clear hop
          have tok2 : True := trivial
          have tok3 : True := trivial
          have tok4 : True := trivial
          have tok5 : True := trivial
          clear hsne
          go_wp2_with (first
            | (go_at_call 16; refine (sealN (Rd.later Hx.out HBW.out) (HT.out.later HBW.out) (by omega)).mono ?_; rintro e w2 ⟨a2, c2, rfl, hr2, hb2⟩; have HB2 := Lib.hid (HBW.out.trans (hb2.mono HBW.out.size)); have HO2 := Lib.hid (own_later HOW.out hb2); obtain ⟨aF, q, hF⟩ := seal_tail HBs.out hr2; have HR2 := Lib.hid hF; clear hr2 hb2 hF)
            | (at_builtin; have _t := tok2; refine wpList_app rfl _ _ 22 rfl w2.heap.size 5 i0 (.int .u8 0) 1 1 Tryd.underlying22 hi hz0 hz1 hz2 rfl (by decide) none 0 0 [] rfl (World.ownsRow_nil _ _ _ _) (some ⟨g, 0, none⟩) xs.length c1 (bytesV cs) rfl (rdOwn HO2.out) (by unfold maxLen; omega) (by omega) (Nat.le_refl _) ?_; intro a3 c3 w3 hown3 hgrow3; clear tok2; simp only [Nat.zero_add, List.nil_append] at hown3; have hb3 := (Below.refl w2.heap.size w2).grown hgrow3 (Nat.le_refl _) (by simp [Value.ownBlock]); have HB3 := Lib.hid (HB2.out.trans (hb3.mono HB2.out.size)); have HO3 := Lib.hid hown3; have HB23 := Lib.hid hb3; have HR3 := Lib.hid (Rd.later HR2.out hb3); clear hown3 hgrow3 hb3)
            | (at_builtin; have _t := tok3; refine wpList_app rfl _ _ 22 rfl w2.heap.size 5 i0 (.int .u8 0) 1 1 Tryd.underlying22 hi hz0 hz1 hz2 rfl (by decide) a3 xs.length c3 _ rfl HO3.out _ 4 (c2 - xs.length) _ rfl HR3.out (by unfold maxLen; omega) (by omega) HB23.out.size ?_; intro a4 c4 w4 hown4 hgrow4; clear tok3; have hb4 := HB23.out.grown hgrow4 HB23.out.size (fun j hj => (HO3.out.lt j hj).1); have HB4 := Lib.hid (HB2.out.trans (hb4.mono HB2.out.size)); have HC4 := Lib.hid (own_later HO2.out hb4); rw [← bytesV_append] at hown4; have HO4 := Lib.hid (rdOwn hown4); clear hown4 hgrow4 hb4)
            | (go_at_call 17; refine (openN HO4.out (HT.out.later HB4.out) (by rw [List.length_append, HCL.out]; simp [Crc.four]; omega)).mono ?_; rintro e w6 ⟨a6, c6, rfl, hr6, hb6⟩; rw [HOP.out]; have HB6 := Lib.hid (HB4.out.trans (hb6.mono HB4.out.size)); have HC6 := Lib.hid (own_later HC4.out hb6); clear hr6 hb6)
            | (go_at_call 11; have _t := tok4; ((with_reducible refine (sumN (rdOwn HC6.out) (HT.out.later HB6.out)).mono ?_); rintro e w' ⟨rfl, rfl⟩; rw [HA.out]; clear tok4))
            | (go_at_call 11; have _t := tok5; ((with_reducible refine (sumN (Rd.later Hx.out HB6.out) (HT.out.later HB6.out)).mono ?_); rintro e w' ⟨rfl, rfl⟩; rw [HBs.out]; clear tok5))
            | (go_at_call 10; refine (awake_any _ (HT.out.later HB6.out)).mono ?_; rintro e w9 ⟨rfl, hb⟩))
          go_ret
          exact ⟨rfl, HB6.out.trans (hb.mono HB6.out.size)⟩
        · have htb' : turnedB ts k = false := by simpa using htb
          clear htb
          go_wp2_with (go_at_call 10; refine (awake_any _ (HT.out.later HBW.out)).mono ?_; rintro e w2 ⟨rfl, hb⟩)
          go_ret
          exact ⟨rfl, HBW.out.trans (hb.mono HBW.out.size)⟩
      · by_cases htb : turnedB ts k = true
        · -- turned
          have hsne := HNE.out htb
          obtain ⟨A, hA, HA⟩ : ∃ A : Nat, A < 4294967296 ∧ Hid (Crc.sum 0 cs = A) := ⟨_, by have := Crc.sum_le 0 cs; omega, Lib.hid rfl⟩
          obtain ⟨B, hB, HBs⟩ : ∃ A : Nat, A < 4294967296 ∧ Hid (Crc.sum 0 xs = A) := ⟨_, by have := Crc.sum_le 0 xs; omega, Lib.hid rfl⟩
          have hd : (A != B) = true := by
            rw [bne_iff_ne, ← HA.out, ← HBs.out]; exact hsne
          have hd2 : ((A : Int) != (B : Int)) = true := by
            rw [bne_iff_ne]; intro h; rw [bne_iff_ne] at hd; exact hd (by omega)
          have hop := opened_turned xs cs hsne
          rw [HBs.out] at hop
          have HOP := Lib.hid hop
          clear hop
          have tok2 : True := trivial
          have tok3 : True := trivial
          have tok4 : True := trivial
          have tok5 : True := trivial
          clear hsne
          go_wp2_with (first
            | (go_at_call 16; refine (sealN (Rd.later Hx.out HBW.out) (HT.out.later HBW.out) (by omega)).mono ?_; rintro e w2 ⟨a2, c2, rfl, hr2, hb2⟩; have HB2 := Lib.hid (HBW.out.trans (hb2.mono HBW.out.size)); have HO2 := Lib.hid (own_later HOW.out hb2); obtain ⟨aF, q, hF⟩ := seal_tail HBs.out hr2; have HR2 := Lib.hid hF; clear hr2 hb2 hF)
            | (at_builtin; have _t := tok2; refine wpList_app rfl _ _ 22 rfl w2.heap.size 5 i0 (.int .u8 0) 1 1 Tryd.underlying22 hi hz0 hz1 hz2 rfl (by decide) none 0 0 [] rfl (World.ownsRow_nil _ _ _ _) (some ⟨g, 0, none⟩) xs.length c1 (bytesV cs) rfl (rdOwn HO2.out) (by unfold maxLen; omega) (by omega) (Nat.le_refl _) ?_; intro a3 c3 w3 hown3 hgrow3; clear tok2; simp only [Nat.zero_add, List.nil_append] at hown3; have hb3 := (Below.refl w2.heap.size w2).grown hgrow3 (Nat.le_refl _) (by simp [Value.ownBlock]); have HB3 := Lib.hid (HB2.out.trans (hb3.mono HB2.out.size)); have HO3 := Lib.hid hown3; have HB23 := Lib.hid hb3; have HR3 := Lib.hid (Rd.later HR2.out hb3); clear hown3 hgrow3 hb3)
            | (at_builtin; have _t := tok3; refine wpList_app rfl _ _ 22 rfl w2.heap.size 5 i0 (.int .u8 0) 1 1 Tryd.underlying22 hi hz0 hz1 hz2 rfl (by decide) a3 xs.length c3 _ rfl HO3.out _ 4 (c2 - xs.length) _ rfl HR3.out (by unfold maxLen; omega) (by omega) HB23.out.size ?_; intro a4 c4 w4 hown4 hgrow4; clear tok3; have hb4 := HB23.out.grown hgrow4 HB23.out.size (fun j hj => (HO3.out.lt j hj).1); have HB4 := Lib.hid (HB2.out.trans (hb4.mono HB2.out.size)); have HC4 := Lib.hid (own_later HO2.out hb4); rw [← bytesV_append] at hown4; have HO4 := Lib.hid (rdOwn hown4); clear hown4 hgrow4 hb4)
            | (go_at_call 17; refine (openN HO4.out (HT.out.later HB4.out) (by rw [List.length_append, HCL.out]; simp [Crc.four]; omega)).mono ?_; rintro e w6 ⟨a6, c6, rfl, hr6, hb6⟩; rw [HOP.out]; have HB6 := Lib.hid (HB4.out.trans (hb6.mono HB4.out.size)); have HC6 := Lib.hid (own_later HC4.out hb6); clear hr6 hb6)
            | (go_at_call 11; have _t := tok4; ((with_reducible refine (sumN (rdOwn HC6.out) (HT.out.later HB6.out)).mono ?_); rintro e w' ⟨rfl, rfl⟩; rw [HA.out]; clear tok4))
            | (go_at_call 11; have _t := tok5; ((with_reducible refine (sumN (Rd.later Hx.out HB6.out) (HT.out.later HB6.out)).mono ?_); rintro e w' ⟨rfl, rfl⟩; rw [HBs.out]; clear tok5))
            | (go_at_call 10; refine (awake_any _ (HT.out.later HB6.out)).mono ?_; rintro e w9 ⟨rfl, hb⟩))
          go_ret
          exact ⟨rfl, HB6.out.trans (hb.mono HB6.out.size)⟩
        · have htb' : turnedB ts k = false := by simpa using htb
          clear htb
          go_wp2_with (go_at_call 10; refine (awake_any _ (HT.out.later HBW.out)).mono ?_; rintro e w2 ⟨rfl, hb⟩)
          go_ret
          exact ⟨rfl, HBW.out.trans (hb.mono HBW.out.size)⟩
end Go.Proofs.YtfpbgfhifbgokaaDoor
