/- Joined: Tbfn4. -/
import Derived.Test.YtecnijnmgdfdhaaYTbfn3
/- The laws of package table: TableFinds. -/
namespace Go.Proofs.Ytecnijnmgdfdhaa
namespace Tb
open Go.RowKit Tr
open Ky (less)
set_option maxHeartbeats 8000000 in
set_option maxRecDepth 100000 in
theorem tableFinds_walk (m0 : Int) (a : Option Addr) (c : Nat) (l : List OpT) (q : Option Addr) (d : Nat) (m : List AskT) (w : World) (hr : Rd w 6 a l.length c (opsV l)) (hok : ∀ x ∈ l, OkOp x) (hq : Rd w 4 q m.length d (asksV m)) (hak : ∀ x ∈ m, OkAsk x) :
    Calls Try.prog 6 #[.int .i64 m0, .slice a l.length c, .slice q m.length d] w (Yes w) := by
  have hcap := hr.cap
  have hle := hr.le
  unfold maxLen at hcap
  have HA := Lib.hid (fun W => awakeT_any W)
  have HRt := Lib.hid (fun W => right_any m0 W)
  have HF := Lib.hid (fun V (hb : Below w.heap.size w V) => few_any a c l (by omega) hok V (hr.later hb))
  have HR := Lib.hid (And.intro hr hok)
  have HQ := Lib.hid (And.intro hq hak)
  clear hr hok hq hak
  by_cases hm : okMost m0 = true
  case neg =>
    have hm2 : okMost m0 = false := by simpa using hm
    rw [hm2] at HRt
    clear hm hm2
    go_enter Try.func6, Try.ntmps6
    go_wp2_with (first | (go_at_call 10; refine (HRt.out _).mono ?_; rintro e V1 ⟨rfl, rfl⟩) | (go_at_call 12; refine (HA.out _).mono ?_; rintro e V9 ⟨rfl, hb⟩; have H9 := Lib.hid ((Below.refl w.heap.size w).trans (hb.mono (Below.refl w.heap.size w).size)); clear hb))
    go_ret
    exact ⟨rfl, H9.out⟩
  rw [hm] at HRt
  have hm3 : 1 ≤ m0 ∧ m0 ≤ 1024 := by unfold okMost at hm; simpa using hm
  obtain ⟨most, rfl⟩ : ∃ n : Nat, m0 = n := ⟨m0.toNat, by omega⟩
  have hmm : 1 ≤ most ∧ most ≤ 1024 := by omega
  clear hm hm3
  by_cases hf : fewT l
  case neg =>
    have hff : decide (fewT l) = false := by simpa using hf
    rw [hff] at HF
    clear hf hff hmm
    go_enter Try.func6, Try.ntmps6
    go_wp2_with (first | (go_at_call 10; refine (HRt.out _).mono ?_; rintro e V1 ⟨rfl, rfl⟩) | (go_at_call 11; refine (HF.out _ (Below.refl _ _)).mono ?_; rintro e V2 ⟨rfl, rfl⟩) | (go_at_call 12; refine (HA.out _).mono ?_; rintro e V9 ⟨rfl, hb⟩; have H9 := Lib.hid ((Below.refl w.heap.size w).trans (hb.mono (Below.refl w.heap.size w).size)); clear hb))
    go_ret
    exact ⟨rfl, H9.out⟩
  have hff : decide (fewT l) = true := by simpa using hf
  rw [hff] at HF
  clear hf hff
  by_cases hm20 : m.length ≤ 20
  case neg =>
    have hk1 : (20 : Int) < (m.length : Int) := by omega
    clear hmm hm20
    go_enter Try.func6, Try.ntmps6
    go_wp2_with (first | (go_at_call 10; refine (HRt.out _).mono ?_; rintro e V1 ⟨rfl, rfl⟩) | (go_at_call 11; refine (HF.out _ (Below.refl _ _)).mono ?_; rintro e V2 ⟨rfl, rfl⟩) | (go_at_call 12; refine (HA.out _).mono ?_; rintro e V9 ⟨rfl, hb⟩; have H9 := Lib.hid ((Below.refl w.heap.size w).trans (hb.mono (Below.refl w.heap.size w).size)); clear hb))
    go_ret
    exact ⟨rfl, H9.out⟩
  have hk1 : (m.length : Int) ≤ 20 := by omega
  have HM : Hid (Calls Try.prog 13 #[.int .i64 most, .slice none 0 0] w fun e V => ∃ tb r, e = .returned (.tuple #[ptrV tb, ptrV r]) ∧ Own w.heap.size w [TabR tb most 2 [], DocR r most []] V) := Lib.hid ((own_made most hmm none 0 [] (Rd.nilSlice w 6) (fun _ h => by cases h) (Own.nil w)).mono (fun e V ⟨tb, r, e1, _, e2⟩ => ⟨tb, r, e1, e2⟩))
  have HC := Lib.hid (fun tb X V L (h : Own w.heap.size w (TabR tb most 2 L :: X) V) => own_tabCheck h)
  clear hmm hm20
  go_enter Try.func6, Try.ntmps6
  go_wp2_with (first
    | (go_at_call 10; refine (HRt.out _).mono ?_; rintro e V1 ⟨rfl, rfl⟩)
    | (go_at_call 11; refine (HF.out _ (Below.refl _ _)).mono ?_; rintro e V2 ⟨rfl, rfl⟩)
    | (go_at_call 13; refine HM.out.mono ?_; rintro e V3 ⟨tb, r, rfl, h3⟩; have H3 := Lib.hid h3; clear h3))
  go_loopw [9] (fun i wr => ∃ (j : Nat), j ≤ l.length ∧ i = .int .i64 j ∧ Hid (Own w.heap.size w [TabR tb most 2 (runT most (l.take j)), DocR r most (runT most (l.take j))] wr)) (fun i _ => l.length - (intOf i).toNat)
  case atStart => exact ⟨0, by omega, rfl, H3⟩
  case round =>
    obtain ⟨j, hj, rfl, HJ⟩ := hrel
    have k0 : (0 : Int) ≤ (j : Int) := by omega
    by_cases hlt : j < l.length
    · obtain ⟨⟨ask, k, r0, r1, r2, r3⟩, hx⟩ : ∃ x, l[j]? = some x := ⟨_, List.getElem?_eq_getElem hlt⟩
      obtain ⟨lb, lo, rfl, z0, z1, z2, z3, z4, z5⟩ := op_at HR.out.1 hx
      have y0 := old_cell z0 HJ.out.low
      have y1 := old_cell z1 HJ.out.low
      have y2 := old_cell z2 HJ.out.low
      have y3 := old_cell z3 HJ.out.low
      have y4 := old_cell z4 HJ.out.low
      have y5 := old_cell z5 HJ.out.low
      have k1 : (j : Int) < (l.length : Int) := by omega
      have HD := Lib.hid (own_does (ask, k, r0, r1, r2, r3) (HR.out.2 _ (List.mem_of_getElem? hx)) HJ.out)
      rw [← runT_succ hx] at HD
      clear hx z0 z1 z2 z3 z4 z5
      go_wp2_with (first
        | (go_at_call 19; refine HD.out.mono ?_; rintro e V2 ⟨rfl, h2⟩; have H2 := Lib.hid h2; clear h2)
        | (go_at_call 22; refine (HC.out _ _ _ _ H2.out).mono ?_; rintro e V5 ⟨rfl, hb⟩; have H5 := Lib.hid (H2.out.later hb); clear hb))
      go_roundw
      case rel => exact ⟨j + 1, by omega, by go_num, H5⟩
      case measure => simp [intOf]; omega
    · obtain rfl : j = l.length := by omega
      have k1 : ¬ (l.length : Int) < (l.length : Int) := by omega
      rw [List.take_length] at HJ
      obtain ⟨L, hL⟩ : ∃ L, runT most l = L := ⟨_, rfl⟩
      rw [hL] at HJ
      clear hL
      go_wp2
      go_loopw [10] (fun i wr => ∃ (u : Nat), u ≤ m.length ∧ i = .int .i64 u ∧ Hid (Own w.heap.size w [TabR tb most 2 L, DocR r most L] wr)) (fun i _ => m.length - (intOf i).toNat)
      case atStart => exact ⟨0, by omega, rfl, HJ⟩
      case round =>
        obtain ⟨u, hu, rfl, HU⟩ := hrel
        have u0 : (0 : Int) ≤ (u : Int) := by omega
        by_cases hlt : u < m.length
        · obtain ⟨⟨ac, lo, hi, am⟩, hx⟩ : ∃ x, m[u]? = some x := ⟨_, List.getElem?_eq_getElem hlt⟩
          obtain ⟨qb, qo, rfl, z0, z1, z2, z3⟩ := ask_at HQ.out.1 hx
          have y0 := old_cell z0 HU.out.low
          have y1 := old_cell z1 HU.out.low
          have y2 := old_cell z2 HU.out.low
          have y3 := old_cell z3 HU.out.low
          have u1 : (u : Int) < (m.length : Int) := by omega
          have hA2 := HQ.out.2 _ (List.mem_of_getElem? hx)
          have HFn := Lib.hid (own_finds ac lo hi am hA2.2.1 hA2.2.2 HU.out)
          clear hx z0 z1 z2 z3 hA2
          go_wp2_with (go_at_call 23; refine HFn.out.mono ?_; rintro e V2 ⟨rfl, h2⟩; have H2 := Lib.hid h2; clear h2)
          go_roundw
          case rel => exact ⟨u + 1, by omega, by go_num, H2⟩
          case measure => simp [intOf]; omega
        · obtain rfl : u = m.length := by omega
          have u1 : ¬ (m.length : Int) < (m.length : Int) := by omega
          go_wp2_with (go_at_call 12; refine (HA.out _).mono ?_; rintro e V9 ⟨rfl, hb⟩; have H9 := Lib.hid ((HU.out.low).trans (hb.mono (HU.out.low).size)); clear hb)
          go_ret
          exact ⟨rfl, H9.out⟩
end Tb
end Go.Proofs.Ytecnijnmgdfdhaa
