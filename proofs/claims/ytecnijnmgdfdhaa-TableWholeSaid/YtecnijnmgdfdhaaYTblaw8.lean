/- Joined: Tblaw8. -/
import Derived.Test.YtecnijnmgdfdhaaYLawB
import Derived.Test.YtecnijnmgdfdhaaYTblaw5
/- The laws of package table: TablePrefix. -/
namespace Go.Proofs.Ytecnijnmgdfdhaa
namespace Tb
open Go.RowKit Tr
open Ky (less)
theorem r4V_at (r : R4) (c : Nat) (hc : c < 4) : (r4V r)[c]? = some (.int .i64 (col r c)) := by
  obtain ⟨a, b, x, y⟩ := r
  have : c = 0 ∨ c = 1 ∨ c = 2 ∨ c = 3 := by omega
  rcases this with rfl | rfl | rfl | rfl <;> rfl
set_option maxHeartbeats 8000000 in
set_option maxRecDepth 100000 in
theorem tablePrefix_walk (m0 : Int) (a : Option Addr) (c : Nat) (l : List OpT) (ac alo ahi am : Int) (w : World) (hr : Rd w 6 a l.length c (opsV l)) (hok : ∀ x ∈ l, OkOp x) (hlo : Ky.In alo) (hhi : Ky.In ahi) :
    Calls Try.prog 4 #[.int .i64 m0, .slice a l.length c, .agg #[.int .i64 ac, .int .i64 alo, .int .i64 ahi, .int .i64 am]] w (Yes w) := by
  have hcap := hr.cap
  have hle := hr.le
  unfold maxLen at hcap
  have HA := Lib.hid (fun W => awakeT_any W)
  have hb0 := al1 w (.cells #[.int .i64 ac, .int .i64 alo, .int .i64 ahi, .int .i64 am] 43)
  obtain ⟨W, hW⟩ : ∃ W, w.alloc (.cells #[.int .i64 ac, .int .i64 alo, .int .i64 ahi, .int .i64 am] 43) = W := ⟨_, rfl⟩
  have x0 : W.cell? ⟨w.heap.size, 0, none⟩ = some (.int .i64 ac) := by rw [← hW]; simp
  have x1 : W.cell? ⟨w.heap.size, 1, none⟩ = some (.int .i64 alo) := by rw [← hW]; simp
  have x2 : W.cell? ⟨w.heap.size, 2, none⟩ = some (.int .i64 ahi) := by rw [← hW]; simp
  have x3 : W.cell? ⟨w.heap.size, 3, none⟩ = some (.int .i64 am) := by rw [← hW]; simp
  rw [hW] at hb0
  have HX : Hid (∀ V, Below W.heap.size W V → V.cell? ⟨w.heap.size, 0, none⟩ = some (.int .i64 ac) ∧ V.cell? ⟨w.heap.size, 1, none⟩ = some (.int .i64 alo) ∧ V.cell? ⟨w.heap.size, 2, none⟩ = some (.int .i64 ahi) ∧ V.cell? ⟨w.heap.size, 3, none⟩ = some (.int .i64 am)) := Lib.hid (fun V hb => ⟨old_cell x0 hb, old_cell x1 hb, old_cell x2 hb, old_cell x3 hb⟩)
  have HEnd : Hid (∀ V, Below W.heap.size W V → Below w.heap.size w V) := Lib.hid (fun V hb => hb0.trans (hb.mono hb0.size))
  have HRt := Lib.hid (fun W => right_any m0 W)
  have HF := Lib.hid (fun V (hb : Below W.heap.size W V) => few_any a c l (by omega) hok V ((hr.later hb0).later hb))
  have HR := Lib.hid (And.intro (hr.later hb0) hok)
  have HIn := Lib.hid (And.intro hlo hhi)
  clear hb0 hr hok hlo hhi
  by_cases hm : okMost m0 = true
  case neg =>
    have hm2 : okMost m0 = false := by simpa using hm
    rw [hm2] at HRt
    clear hm hm2
    go_enter Try.func4, Try.ntmps4
    go_wp2_with (first | (go_at_call 10; refine (HRt.out _).mono ?_; rintro e V1 ⟨rfl, rfl⟩) | (go_at_call 12; refine (HA.out _).mono ?_; rintro e V9 ⟨rfl, hb⟩; have H9 := Lib.hid ((Below.refl W.heap.size W).trans (hb.mono (Below.refl W.heap.size W).size)); clear hb))
    go_ret
    exact ⟨rfl, HEnd.out _ H9.out⟩
  rw [hm] at HRt
  have hm3 : 1 ≤ m0 ∧ m0 ≤ 1024 := by unfold okMost at hm; simpa using hm
  obtain ⟨most, rfl⟩ : ∃ n : Nat, m0 = n := ⟨m0.toNat, by omega⟩
  have hmm : 1 ≤ most ∧ most ≤ 1024 := by omega
  clear hm hm3
  by_cases hf : fewT l
  case neg =>
    have hff : decide (fewT l) = false := by simpa using hf
    rw [hff] at HF
    clear hf hff hmm
    go_enter Try.func4, Try.ntmps4
    go_wp2_with (first | (go_at_call 10; refine (HRt.out _).mono ?_; rintro e V1 ⟨rfl, rfl⟩) | (go_at_call 11; refine (HF.out _ (Below.refl _ _)).mono ?_; rintro e V2 ⟨rfl, rfl⟩) | (go_at_call 12; refine (HA.out _).mono ?_; rintro e V9 ⟨rfl, hb⟩; have H9 := Lib.hid ((Below.refl W.heap.size W).trans (hb.mono (Below.refl W.heap.size W).size)); clear hb))
    go_ret
    exact ⟨rfl, HEnd.out _ H9.out⟩
  have hff : decide (fewT l) = true := by simpa using hf
  rw [hff] at HF
  clear hf hff
  by_cases ham : am < 0
  · clear hmm
    go_enter Try.func4, Try.ntmps4
    go_wp2_with (first | (go_at_call 10; refine (HRt.out _).mono ?_; rintro e V1 ⟨rfl, rfl⟩) | (go_at_call 11; refine (HF.out _ (Below.refl _ _)).mono ?_; rintro e V2 ⟨rfl, rfl⟩) | (go_at_call 12; refine (HA.out _).mono ?_; rintro e V9 ⟨rfl, hb⟩; have H9 := Lib.hid ((Below.refl W.heap.size W).trans (hb.mono (Below.refl W.heap.size W).size)); clear hb))
    go_ret
    exact ⟨rfl, HEnd.out _ H9.out⟩
  obtain ⟨m, rfl⟩ : ∃ n : Nat, am = n := ⟨am.toNat, by omega⟩
  have HM := Lib.hid (own_made most hmm a c l HR.out.1 HR.out.2 (Own.nil W))
  obtain ⟨L, hL⟩ : ∃ L, runT most l = L := ⟨_, rfl⟩
  rw [hL] at HM
  have hd : decide ((m : Int) < 0) = false := by simp
  clear hmm hL
  by_cases hbad : (ac < 0 ∨ 4 ≤ ac) ∨ ahi < alo
  · have HFd : Hid (∀ tb x V, Own W.heap.size W [TabR tb most 2 L, DocR x most L] V → ∀ mm : Int, Calls Try.prog 14 #[ptrV tb, .int .i64 ac, .int .i64 alo, .int .i64 ahi, .int .i64 mm] V fun e V2 => e = .returned (.tuple #[.slice none 0 0, .int .i64 10]) ∧ Below V.heap.size V V2) := Lib.hid (fun tb x V h mm => by
      by_cases hc : ac < 0 ∨ 4 ≤ ac
      · exact findTb_col tb ac alo ahi mm hc V
      · obtain ⟨cc, rfl⟩ : ∃ n : Nat, ac = n := ⟨ac.toNat, by omega⟩
        exact findTb_bad tb cc (by omega) alo ahi mm (hbad.resolve_left hc) V)
    have tok1 : True := trivial
    clear hbad
    go_enter Try.func4, Try.ntmps4
    go_wp2_with (first
      | (go_at_call 10; refine (HRt.out _).mono ?_; rintro e V1 ⟨rfl, rfl⟩)
      | (go_at_call 11; refine (HF.out _ (Below.refl _ _)).mono ?_; rintro e V2 ⟨rfl, rfl⟩)
      | (go_at_call 13; refine HM.out.mono ?_; rintro e V3 ⟨tb, r, rfl, hb3, h3⟩; have H3 := Lib.hid h3; obtain ⟨y0, y1, y2, y3⟩ := HX.out _ h3.low; clear h3 hb3)
      | (go_at_call 14; have _t := tok1; refine (HFd.out _ _ _ H3.out _).mono ?_; rintro e V4 ⟨rfl, hb⟩; have H4 := Lib.hid (H3.out.later hb); obtain ⟨z0, z1, z2, z3⟩ := HX.out _ H4.out.low; clear hb tok1 _t)
      | (go_at_call 14; refine (HFd.out _ _ _ H4.out _).mono ?_; rintro e V5 ⟨rfl, hb⟩; have H5 := Lib.hid (H4.out.later hb); clear hb)
      | (go_at_call 12; refine (HA.out _).mono ?_; rintro e V9 ⟨rfl, hb⟩; have H9 := Lib.hid ((H5.out.low).trans (hb.mono (H5.out.low).size)); clear hb))
    go_ret
    exact ⟨rfl, HEnd.out _ H9.out⟩
  obtain ⟨cc, rfl⟩ : ∃ n : Nat, ac = n := ⟨ac.toNat, by omega⟩
  have hc : cc < 4 := by omega
  have hnl : ¬ ahi < alo := by omega
  have HFd : Hid (∀ tb (X : List Rs) V, Own W.heap.size W (TabR tb most 2 L :: X) V → ∀ mm : Nat, Calls Try.prog 14 #[ptrV tb, .int .i64 cc, .int .i64 alo, .int .i64 ahi, .int .i64 mm] V fun e V2 => ∃ (a : Option Addr) (k : Nat), e = .returned (.tuple #[.slice a ((keysOf (hits cc alo ahi L)).take mm).length k, .int .i64 0]) ∧ Own W.heap.size W (SlR 1 a ((keysOf (hits cc alo ahi L)).take mm).length k (textsV ((keysOf (hits cc alo ahi L)).take mm)) :: TabR tb most 2 L :: X) V2) := Lib.hid (fun tb X V h mm => own_findR cc hc alo ahi HIn.out.1 HIn.out.2 hnl mm h)
  have HKl : Hid (∀ tb (X : List Rs) V, Own W.heap.size W (TabR tb most 2 L :: X) V → (keysOf (hits cc alo ahi L)).length ≤ 1024) := Lib.hid (fun tb X V h => keys_len (own_tabOk h) (own_tabSorted h) cc alo ahi)
  have HRow : Hid (∀ tb (X : List Rs) V, Own W.heap.size W (TabR tb most 2 L :: X) V → ∀ (j : Nat) (k : Str), (keysOf (hits cc alo ahi L))[j]? = some k → getE k L = 0 ∧ alo ≤ col (getR k L) cc ∧ col (getR k L) cc ≤ ahi) := Lib.hid (fun tb X V h j k hj => found_row (own_tabOk h) (own_tabSorted h) HIn.out.1 HIn.out.2 hj)
  obtain ⟨K, hK⟩ : ∃ K, keysOf (hits cc alo ahi L) = K := ⟨_, rfl⟩
  rw [hK] at HFd HKl HRow
  have HF1 := Lib.hid (fun tb X V h => HFd.out tb X V h m)
  have HF2 : Hid (∀ tb (X : List Rs) V, Own W.heap.size W (TabR tb most 2 L :: X) V → Calls Try.prog 14 #[ptrV tb, .int .i64 cc, .int .i64 alo, .int .i64 ahi, .int .i64 2000] V fun e V2 => ∃ (a : Option Addr) (k : Nat), e = .returned (.tuple #[.slice a K.length k, .int .i64 0]) ∧ Own W.heap.size W (SlR 1 a K.length k (textsV K) :: TabR tb most 2 L :: X) V2) := Lib.hid (fun tb X V h => by
    have h1 := HFd.out tb X V h 2000
    have h2 := HKl.out tb X V h
    rwa [List.take_of_length_le (by omega)] at h1)
  obtain ⟨S1, hS1⟩ : ∃ S, K.take m = S := ⟨_, rfl⟩
  obtain ⟨N, hN⟩ : ∃ N, K.length = N := ⟨_, rfl⟩
  obtain ⟨M, hM⟩ : ∃ M, S1.length = M := ⟨_, rfl⟩
  have hMN : M ≤ N := by rw [← hM, ← hS1, ← hN, List.length_take]; omega
  have hmin : min (m : Int) (N : Int) = (M : Int) := by rw [← hM, ← hS1, List.length_take, hN]; omega
  have hST : K.take M = S1 := by
    rw [← hM, ← hS1, List.length_take]
    rcases Nat.le_total m K.length with h | h
    · rw [Nat.min_eq_left h]
    · rw [Nat.min_eq_right h, List.take_length, List.take_of_length_le h]
  rw [hS1, hM] at HF1
  rw [hN] at HF2
  have HTx : Hid (∀ V a k b d, Rd V 1 a M k (textsV S1) → Rd V 1 b N d (textsV K) → Calls Try.prog 17 #[.slice a M k, .slice b M d] V fun e V2 => e = .returned (.bool true) ∧ Below V.heap.size V V2) := Lib.hid (fun V a k b d h1 h2 => by
    have h3 := h2.to M hMN
    rw [Nat.mul_one, show (textsV K).take M = textsV S1 by unfold textsV; rw [← List.map_take, hST]] at h3
    have := texts_any a k S1 b d S1 V (by have := h1.le; have := h1.cap; unfold maxLen at this; omega) (by rw [hM]; exact h1) (by rw [hM]; exact h3)
    rw [hM] at this
    simpa using this)
  have HK1 := Lib.hid (And.intro hN hMN)
  have hN0 : (N : Int) ≤ 1024 ∨ True := .inr trivial
  have k0 : (0 : Int) ≤ (cc : Int) := by omega
  have k1 : (cc : Int) < 4 := by omega
  have hM0 : (0 : Int) ≤ (M : Int) := by omega
  have tok1 : True := trivial
  clear HFd hK hbad hN0 hmin
  rcases (Nat.lt_or_ge N m).symm with hle | hle
  · obtain rfl : M = m := by rw [← hM, ← hS1, List.length_take, hN]; omega
    have hle1 : (M : Int) ≤ (N : Int) := by omega
    clear hS1 hM hST hN hle
    go_enter Try.func4, Try.ntmps4
    go_wp2_with (first
      | (go_at_call 10; refine (HRt.out _).mono ?_; rintro e V1 ⟨rfl, rfl⟩)
      | (go_at_call 11; refine (HF.out _ (Below.refl _ _)).mono ?_; rintro e V2 ⟨rfl, rfl⟩)
      | (go_at_call 13; refine HM.out.mono ?_; rintro e V3 ⟨tb, r, rfl, hb3, h3⟩; have H3 := Lib.hid h3; obtain ⟨y0, y1, y2, y3⟩ := HX.out _ h3.low; clear h3 hb3)
      | (go_at_call 14; have _t := tok1; refine (HF1.out _ _ _ H3.out).mono ?_; rintro e V4 ⟨fa, fk, rfl, h4⟩; have H4 := Lib.hid h4.swap; obtain ⟨z0, z1, z2, z3⟩ := HX.out _ h4.low; clear h4 tok1 _t)
      | (go_at_call 14; refine (HF2.out _ _ _ H4.out).mono ?_; rintro e V5 ⟨ga, gk, rfl, h5⟩; have H5 := Lib.hid h5; obtain ⟨u0, u1, u2, u3⟩ := HX.out _ h5.low; have hrd := own_rd h5; have HRd := Lib.hid (And.intro (own_rd h5.third) (own_rd h5)); have hgk := hrd.le; have hgc := hrd.cap; have hto := to_ex (P := Try.prog) 31 Try.underlying31 1 Try.sizeOf9 ga N gk .i64 M (by omega); clear h5 hrd)
      | (go_at_call 17; refine (HTx.out V5 fa fk ga gk HRd.out.1 HRd.out.2).mono ?_; rintro e V6 ⟨rfl, hb⟩; have H6 := Lib.hid (H5.out.later hb); clear hb))
    go_loopw [13] (fun i wr => ∃ (j : Nat), j ≤ N ∧ i = .int .i64 j ∧ Hid (Own W.heap.size W [SlR 1 ga N gk (textsV K), TabR tb most 2 L, SlR 1 fa M fk (textsV S1), DocR r most L] wr)) (fun i _ => N - (intOf i).toNat)
    case atStart => exact ⟨0, by omega, rfl, H6⟩
    case round =>
      obtain ⟨j, hj, rfl, HJ⟩ := hrel
      have k2 : (0 : Int) ≤ (j : Int) := by omega
      have hNb : (N : Int) ≤ 1024 := by have h := HKl.out _ _ _ HJ.out.swap; rw [HK1.out.1] at h; omega
      by_cases hlt : j < N
      · obtain ⟨k, hx⟩ : ∃ k, K[j]? = some k := ⟨_, List.getElem?_eq_getElem (by rw [HK1.out.1]; exact hlt)⟩
        obtain ⟨kb, ko, rfl, z0⟩ := text_at (own_rd HJ.out) hx
        obtain ⟨e0, e1, e2⟩ := HRow.out _ _ _ HJ.out.swap j k hx
        have k3 : (j : Int) < (N : Int) := by omega
        have hG := own_tabGet k HJ.out.swap
        rw [e0] at hG
        obtain ⟨⟨g0, g1, g2, g3⟩, hgr⟩ : ∃ g, getR k L = g := ⟨_, rfl⟩
        rw [hgr] at hG e1 e2
        have hat := r4V_at (g0, g1, g2, g3) cc hc
        obtain ⟨v, hv⟩ : ∃ v, col (g0, g1, g2, g3) cc = v := ⟨_, rfl⟩
        rw [hv] at hat e1 e2
        have hd1 : decide (v < alo) = false := by simp; omega
        have hd2 : decide (ahi < v) = false := by simp; omega
        have HG : Hid (Calls Try.prog 16 #[ptrV tb, .string ⟨k.toArray⟩] wr fun e V => e = .returned (.tuple #[.agg #[.int .i64 g0, .int .i64 g1, .int .i64 g2, .int .i64 g3], .int .i64 0]) ∧ Below wr.heap.size wr V) := Lib.hid hG
        clear hG hx hgr e0 e1 e2 hv
        obtain ⟨q0, q1, q2, q3⟩ := HX.out _ HJ.out.low
        go_wp2_with (go_at_call 16; refine HG.out.mono ?_; rintro e V7 ⟨rfl, hb⟩; have H7 := Lib.hid (own_newRow (HJ.out.later hb) (g0, g1, g2, g3) 37); have p0 := own_cell H7.out hat; obtain ⟨s0, s1, s2, s3⟩ := HX.out _ H7.out.low; clear hb)
        go_quiet (fail)
        go_wp2
        go_roundw
        case rel => exact ⟨j + 1, by omega, by go_num, Lib.hid (H7.out.drop.later (below_drewN _ nq))⟩
        case measure => simp [intOf]; omega
      · obtain rfl : j = N := by omega
        have k3 : ¬ (j : Int) < (j : Int) := by omega
        go_wp2_with (go_at_call 12; refine (HA.out _).mono ?_; rintro e V9 ⟨rfl, hb⟩; have H9 := Lib.hid ((HJ.out.low).trans (hb.mono (HJ.out.low).size)); clear hb)
        go_ret
        exact ⟨rfl, HEnd.out _ H9.out⟩
  · obtain rfl : N = M := by rw [← hM, ← hS1, List.length_take, hN]; omega
    have hle1 : (N : Int) < (m : Int) := by omega
    have hle2 : ¬ (m : Int) ≤ (N : Int) := by omega
    clear hS1 hM hST hN hle
    go_enter Try.func4, Try.ntmps4
    go_wp2_with (first
      | (go_at_call 10; refine (HRt.out _).mono ?_; rintro e V1 ⟨rfl, rfl⟩)
      | (go_at_call 11; refine (HF.out _ (Below.refl _ _)).mono ?_; rintro e V2 ⟨rfl, rfl⟩)
      | (go_at_call 13; refine HM.out.mono ?_; rintro e V3 ⟨tb, r, rfl, hb3, h3⟩; have H3 := Lib.hid h3; obtain ⟨y0, y1, y2, y3⟩ := HX.out _ h3.low; clear h3 hb3)
      | (go_at_call 14; have _t := tok1; refine (HF1.out _ _ _ H3.out).mono ?_; rintro e V4 ⟨fa, fk, rfl, h4⟩; have H4 := Lib.hid h4.swap; obtain ⟨z0, z1, z2, z3⟩ := HX.out _ h4.low; clear h4 tok1 _t)
      | (go_at_call 14; refine (HF2.out _ _ _ H4.out).mono ?_; rintro e V5 ⟨ga, gk, rfl, h5⟩; have H5 := Lib.hid h5; obtain ⟨u0, u1, u2, u3⟩ := HX.out _ h5.low; have hrd := own_rd h5; have HRd := Lib.hid (And.intro (own_rd h5.third) (own_rd h5)); have hgk := hrd.le; have hgc := hrd.cap; have hto := to_ex (P := Try.prog) 31 Try.underlying31 1 Try.sizeOf9 ga N gk .i64 N (by omega); clear h5 hrd)
      | (go_at_call 17; refine (HTx.out V5 fa fk ga gk HRd.out.1 HRd.out.2).mono ?_; rintro e V6 ⟨rfl, hb⟩; have H6 := Lib.hid (H5.out.later hb); clear hb))
    go_loopw [13] (fun i wr => ∃ (j : Nat), j ≤ N ∧ i = .int .i64 j ∧ Hid (Own W.heap.size W [SlR 1 ga N gk (textsV K), TabR tb most 2 L, SlR 1 fa N fk (textsV S1), DocR r most L] wr)) (fun i _ => N - (intOf i).toNat)
    case atStart => exact ⟨0, by omega, rfl, H6⟩
    case round =>
      obtain ⟨j, hj, rfl, HJ⟩ := hrel
      have k2 : (0 : Int) ≤ (j : Int) := by omega
      have hNb : (N : Int) ≤ 1024 := by have h := HKl.out _ _ _ HJ.out.swap; rw [HK1.out.1] at h; omega
      by_cases hlt : j < N
      · obtain ⟨k, hx⟩ : ∃ k, K[j]? = some k := ⟨_, List.getElem?_eq_getElem (by rw [HK1.out.1]; exact hlt)⟩
        obtain ⟨kb, ko, rfl, z0⟩ := text_at (own_rd HJ.out) hx
        obtain ⟨e0, e1, e2⟩ := HRow.out _ _ _ HJ.out.swap j k hx
        have k3 : (j : Int) < (N : Int) := by omega
        have hG := own_tabGet k HJ.out.swap
        rw [e0] at hG
        obtain ⟨⟨g0, g1, g2, g3⟩, hgr⟩ : ∃ g, getR k L = g := ⟨_, rfl⟩
        rw [hgr] at hG e1 e2
        have hat := r4V_at (g0, g1, g2, g3) cc hc
        obtain ⟨v, hv⟩ : ∃ v, col (g0, g1, g2, g3) cc = v := ⟨_, rfl⟩
        rw [hv] at hat e1 e2
        have hd1 : decide (v < alo) = false := by simp; omega
        have hd2 : decide (ahi < v) = false := by simp; omega
        have HG : Hid (Calls Try.prog 16 #[ptrV tb, .string ⟨k.toArray⟩] wr fun e V => e = .returned (.tuple #[.agg #[.int .i64 g0, .int .i64 g1, .int .i64 g2, .int .i64 g3], .int .i64 0]) ∧ Below wr.heap.size wr V) := Lib.hid hG
        clear hG hx hgr e0 e1 e2 hv
        obtain ⟨q0, q1, q2, q3⟩ := HX.out _ HJ.out.low
        go_wp2_with (go_at_call 16; refine HG.out.mono ?_; rintro e V7 ⟨rfl, hb⟩; have H7 := Lib.hid (own_newRow (HJ.out.later hb) (g0, g1, g2, g3) 37); have p0 := own_cell H7.out hat; obtain ⟨s0, s1, s2, s3⟩ := HX.out _ H7.out.low; clear hb)
        go_quiet (fail)
        go_wp2
        go_roundw
        case rel => exact ⟨j + 1, by omega, by go_num, Lib.hid (H7.out.drop.later (below_drewN _ nq))⟩
        case measure => simp [intOf]; omega
      · obtain rfl : j = N := by omega
        have k3 : ¬ (j : Int) < (j : Int) := by omega
        go_wp2_with (go_at_call 12; refine (HA.out _).mono ?_; rintro e V9 ⟨rfl, hb⟩; have H9 := Lib.hid ((HJ.out.low).trans (hb.mono (HJ.out.low).size)); clear hb)
        go_ret
        exact ⟨rfl, HEnd.out _ H9.out⟩
end Tb
end Go.Proofs.Ytecnijnmgdfdhaa
