/- Joined: Tblaw5. -/
import Derived.Test.YtecnijnmgdfdhaaYLawA
/- The laws of package table: TablePlays. -/
namespace Go.Proofs.Ytecnijnmgdfdhaa
namespace Tb
open Go.RowKit Tr
open Ky (less)
def Yes (w : World) (e : Ending) (V : World) : Prop := e = .returned (.bool true) ∧ Below w.heap.size w V
set_option maxHeartbeats 8000000 in
set_option maxRecDepth 100000 in
theorem tablePlays_walk (m0 m1 : Int) (a : Option Addr) (c : Nat) (l : List OpT) (w : World) (hr : Rd w 6 a l.length c (opsV l)) (hok : ∀ x ∈ l, OkOp x) :
    Calls Try.prog 5 #[.agg #[.int .i64 m0, .int .i64 m1], .slice a l.length c] w (Yes w) := by
  have hcap := hr.cap
  have hle := hr.le
  unfold maxLen at hcap
  have HA := Lib.hid (fun W => awakeT_any W)
  have hb0 := al1 w (.cells #[.int .i64 m0, .int .i64 m1] 23)
  obtain ⟨W, hW⟩ : ∃ W, w.alloc (.cells #[.int .i64 m0, .int .i64 m1] 23) = W := ⟨_, rfl⟩
  have x0 : W.cell? ⟨w.heap.size, 0, none⟩ = some (.int .i64 m0) := by rw [← hW]; simp
  have x1 : W.cell? ⟨w.heap.size, 1, none⟩ = some (.int .i64 m1) := by rw [← hW]; simp
  rw [hW] at hb0
  have HB0 := Lib.hid hb0
  have HX : Hid (∀ V, Below W.heap.size W V → V.cell? ⟨w.heap.size, 0, none⟩ = some (.int .i64 m0) ∧ V.cell? ⟨w.heap.size, 1, none⟩ = some (.int .i64 m1)) := Lib.hid (fun V hb => ⟨old_cell x0 hb, old_cell x1 hb⟩)
  have HEnd : Hid (∀ V, Below W.heap.size W V → Below w.heap.size w V) := Lib.hid (fun V hb => hb0.trans (hb.mono hb0.size))
  have HRt := Lib.hid (fun W => right_any m0 W)
  have HR := Lib.hid (hr.later hb0)
  have HF := Lib.hid (fun V (hb : Below W.heap.size W V) => few_any a c l (by omega) hok V ((hr.later hb0).later hb))
  have HOk := Lib.hid hok
  clear hb0 hr hok
  by_cases hm : okMost m0 = true
  case neg =>
    have hm2 : okMost m0 = false := by simpa using hm
    rw [hm2] at HRt
    have HN := Lib.hid (fun W => newTb_bad m0 m1 (by unfold okMost at hm2; simp at hm2; omega) W)
    clear hm hm2
    go_enter Try.func5, Try.ntmps5
    go_wp2_with (first | (go_at_call 18; refine (HN.out _).mono ?_; rintro e V1 ⟨rfl, rfl⟩) | (go_at_call 10; refine (HRt.out _).mono ?_; rintro e V1 ⟨rfl, rfl⟩) | (go_at_call 12; refine (HA.out _).mono ?_; rintro e V9 ⟨rfl, hb⟩; have H9 := Lib.hid ((Below.refl W.heap.size W).trans (hb.mono (Below.refl W.heap.size W).size)); clear hb))
    go_ret
    exact ⟨rfl, HEnd.out _ H9.out⟩
  rw [hm] at HRt
  have hm3 : 1 ≤ m0 ∧ m0 ≤ 1024 := by unfold okMost at hm; simpa using hm
  obtain ⟨most, rfl⟩ : ∃ n : Nat, m0 = n := ⟨m0.toNat, by omega⟩
  have hmm : 1 ≤ most ∧ most ≤ 1024 := by omega
  clear hm hm3
  by_cases ho : m1 < 2 ∨ 16 < m1
  · have HN := Lib.hid (fun W => newTb_order most m1 hmm ho W)
    rcases ho with ho | ho
    · have hd : decide (m1 < 2) = true := by simpa using ho
      clear hmm
      go_enter Try.func5, Try.ntmps5
      go_wp2_with (first | (go_at_call 18; refine (HN.out _).mono ?_; rintro e V1 ⟨rfl, hb⟩; have H1 := Lib.hid hb; obtain ⟨y0, y1⟩ := HX.out _ hb; clear hb) | (go_at_call 10; refine (HRt.out _).mono ?_; rintro e V1 ⟨rfl, rfl⟩) | (go_at_call 12; refine (HA.out _).mono ?_; rintro e V9 ⟨rfl, hb⟩; have H9 := Lib.hid ((H1.out).trans (hb.mono (H1.out).size)); clear hb))
      go_ret
      exact ⟨rfl, HEnd.out _ H9.out⟩
    · have hd : decide (m1 < 2) = false := by simp; omega
      have ho2 : ¬ m1 < 2 := by omega
      clear hmm
      go_enter Try.func5, Try.ntmps5
      go_wp2_with (first | (go_at_call 18; refine (HN.out _).mono ?_; rintro e V1 ⟨rfl, hb⟩; have H1 := Lib.hid hb; obtain ⟨y0, y1⟩ := HX.out _ hb; clear hb) | (go_at_call 10; refine (HRt.out _).mono ?_; rintro e V1 ⟨rfl, rfl⟩) | (go_at_call 12; refine (HA.out _).mono ?_; rintro e V9 ⟨rfl, hb⟩; have H9 := Lib.hid ((H1.out).trans (hb.mono (H1.out).size)); clear hb))
      go_ret
      exact ⟨rfl, HEnd.out _ H9.out⟩
  obtain ⟨o, rfl⟩ : ∃ n : Nat, m1 = n := ⟨m1.toNat, by omega⟩
  have ho1 : ¬ (o : Int) < 2 := by omega
  have ho2 : ¬ (16 : Int) < o := by omega
  have hod : decide ((o : Int) < 2) = false := by simp; omega
  have HN := Lib.hid (own_tabNew most o hmm (by omega) (by omega) (Own.nil W))
  by_cases hf : fewT l
  case neg =>
    have hff : decide (fewT l) = false := by simpa using hf
    rw [hff] at HF
    clear ho hf hff hmm
    go_enter Try.func5, Try.ntmps5
    go_wp2_with (first
      | (go_at_call 18; refine HN.out.mono ?_; rintro e V1 ⟨tb, rfl, h1⟩; have H1 := Lib.hid h1.low; obtain ⟨y0, y1⟩ := HX.out _ h1.low; clear h1)
      | (go_at_call 10; refine (HRt.out _).mono ?_; rintro e V1 ⟨rfl, rfl⟩)
      | (go_at_call 11; refine (HF.out _ H1.out).mono ?_; rintro e V2 ⟨rfl, rfl⟩)
      | (go_at_call 12; refine (HA.out _).mono ?_; rintro e V9 ⟨rfl, hb⟩; have H9 := Lib.hid ((H1.out).trans (hb.mono (H1.out).size)); clear hb))
    go_ret
    exact ⟨rfl, HEnd.out _ H9.out⟩
  have hff : decide (fewT l) = true := by simpa using hf
  have hl := hf.2
  rw [hff] at HF
  clear ho hf hff hmm
  go_enter Try.func5, Try.ntmps5
  go_wp2_with (first
    | (go_at_call 18; refine HN.out.mono ?_; rintro e V1 ⟨tb, rfl, h1⟩; have H1 := Lib.hid h1.low; have H1o := Lib.hid (own_docNew h1 most 49); obtain ⟨y0, y1⟩ := HX.out _ h1.low; clear h1)
    | (go_at_call 10; refine (HRt.out _).mono ?_; rintro e V1 ⟨rfl, rfl⟩)
    | (go_at_call 11; refine (HF.out _ H1.out).mono ?_; rintro e V2 ⟨rfl, rfl⟩))
  obtain ⟨r, hrr⟩ : ∃ r, V1.heap.size = r := ⟨_, rfl⟩
  rw [hrr] at H1o ⊢
  clear hrr y0 y1 x0 x1
  go_loopw [8] (fun i wr => ∃ (j : Nat), j ≤ l.length ∧ i = .int .i64 j ∧ Hid (Own W.heap.size W [TabR tb most o (runT most (l.take j)), DocR r most (runT most (l.take j))] wr)) (fun i _ => l.length - (intOf i).toNat)
  case atStart => exact ⟨0, by omega, rfl, Lib.hid H1o.out.swap⟩
  case round =>
    obtain ⟨j, hj, rfl, HJ⟩ := hrel
    have k0 : (0 : Int) ≤ (j : Int) := by omega
    by_cases hlt : j < l.length
    · obtain ⟨⟨ask, k, r0, r1, r2, r3⟩, hx⟩ : ∃ x, l[j]? = some x := ⟨_, List.getElem?_eq_getElem hlt⟩
      obtain ⟨lb, lo, rfl, z0, z1, z2, z3, z4, z5⟩ := op_at HR.out hx
      have HX2 : Hid (∀ V, Below W.heap.size W V → V.cell? ⟨lb, lo + j * 6, none⟩ = some (.int .i64 ask) ∧ V.cell? ⟨lb, lo + j * 6 + 1, none⟩ = some (.string ⟨k.toArray⟩) ∧ V.cell? ⟨lb, lo + j * 6 + 2, none⟩ = some (.int .i64 r0) ∧ V.cell? ⟨lb, lo + j * 6 + 3, none⟩ = some (.int .i64 r1) ∧ V.cell? ⟨lb, lo + j * 6 + 4, none⟩ = some (.int .i64 r2) ∧ V.cell? ⟨lb, lo + j * 6 + 5, none⟩ = some (.int .i64 r3)) := Lib.hid (fun V hb => ⟨old_cell z0 hb, old_cell z1 hb, old_cell z2 hb, old_cell z3 hb, old_cell z4 hb, old_cell z5 hb⟩)
      obtain ⟨y0, y1, y2, y3, y4, y5⟩ := HX2.out _ HJ.out.low
      have k1 : (j : Int) < (l.length : Int) := by omega
      have hD := own_does (ask, k, r0, r1, r2, r3) (HOk.out _ (List.mem_of_getElem? hx)) (HJ.out.later (below_drewN wr 1))
      rw [← runT_succ hx] at hD
      have HD := Lib.hid hD
      obtain ⟨Nn, hNn⟩ : ∃ n, (runT most (l.take (j + 1))).length = n := ⟨_, rfl⟩
      have HNn := Lib.hid hNn
      clear hx z0 z1 z2 z3 z4 z5 hD hNn
      go_wp2
      refine wp_region_held_drew (S := (fun V => V.cell? ⟨lb, lo + j * 6, none⟩ = some (.int .i64 ask) ∧ V.cell? ⟨lb, lo + j * 6 + 1, none⟩ = some (.string ⟨k.toArray⟩) ∧ V.cell? ⟨lb, lo + j * 6 + 2, none⟩ = some (.int .i64 r0) ∧ V.cell? ⟨lb, lo + j * 6 + 3, none⟩ = some (.int .i64 r1) ∧ V.cell? ⟨lb, lo + j * 6 + 4, none⟩ = some (.int .i64 r2) ∧ V.cell? ⟨lb, lo + j * 6 + 5, none⟩ = some (.int .i64 r3))) (by kernel_rfl) ⟨y0, y1, y2, y3, y4, y5⟩ (fun hH0 => ?_)
      refine wpAnyH_take (i := 0) (v := ?v0) rfl (by kernel_rfl) (by kernel_rfl) (by kernel_rfl) (fun _ _ _ h => h) (Or.inl ⟨by rfl, ?hy0⟩) hH0 ?rest0
      case hy0 => (intro Wx hSw; (try dsimp only at hSw); go_simp; all_goals (with_reducible rfl))
      try simp only [List.getElem_toArray, List.getElem_cons_succ, List.getElem_cons_zero, Act.put, List.setIfInBounds_toArray, List.set_cons_zero, List.set_cons_succ]
      refine wpAnyH_take (i := 1) (v := ?v1) rfl (by kernel_rfl) (by kernel_rfl) (by kernel_rfl) (fun _ _ _ h => h) (Or.inl ⟨by rfl, ?hy1⟩) hH0 ?rest1
      case hy1 => (intro Wx hSw; (try dsimp only at hSw); go_simp; all_goals (with_reducible rfl))
      try simp only [List.getElem_toArray, List.getElem_cons_succ, List.getElem_cons_zero, Act.put, List.setIfInBounds_toArray, List.set_cons_zero, List.set_cons_succ]
      refine wpAnyH_take (i := 2) (v := ?v2) rfl (by kernel_rfl) (by kernel_rfl) (by kernel_rfl) (fun _ _ _ h => h) (Or.inl ⟨by rfl, ?hy2⟩) hH0 ?rest2
      case hy2 => (intro Wx hSw; (try dsimp only at hSw); go_simp; all_goals (with_reducible rfl))
      try simp only [List.getElem_toArray, List.getElem_cons_succ, List.getElem_cons_zero, Act.put, List.setIfInBounds_toArray, List.set_cons_zero, List.set_cons_succ]
      refine wpAnyH_take (i := 3) (v := ?v3) rfl (by kernel_rfl) (by kernel_rfl) (by kernel_rfl) (fun _ _ _ h => h) (Or.inl ⟨by rfl, ?hy3⟩) hH0 ?rest3
      case hy3 => (intro Wx hSw; (try dsimp only at hSw); go_simp; all_goals (with_reducible rfl))
      try simp only [List.getElem_toArray, List.getElem_cons_succ, List.getElem_cons_zero, Act.put, List.setIfInBounds_toArray, List.set_cons_zero, List.set_cons_succ]
      refine wpAnyH_take (i := 4) (v := ?v4) rfl (by kernel_rfl) (by kernel_rfl) (by kernel_rfl) (fun _ _ _ h => h) (Or.inl ⟨by rfl, ?hy4⟩) hH0 ?rest4
      case hy4 => (intro Wx hSw; (try dsimp only at hSw); go_simp; all_goals (with_reducible rfl))
      try simp only [List.getElem_toArray, List.getElem_cons_succ, List.getElem_cons_zero, Act.put, List.setIfInBounds_toArray, List.set_cons_zero, List.set_cons_succ]
      refine wpAnyH_take (i := 5) (v := ?v5) rfl (by kernel_rfl) (by kernel_rfl) (by kernel_rfl) (fun _ _ _ h => h) (Or.inl ⟨by rfl, ?hy5⟩) hH0 ?rest5
      case hy5 => (intro Wx hSw; (try dsimp only at hSw); go_simp; all_goals (with_reducible rfl))
      try simp only [List.getElem_toArray, List.getElem_cons_succ, List.getElem_cons_zero, Act.put, List.setIfInBounds_toArray, List.set_cons_zero, List.set_cons_succ]
      refine wpAnyH_ready (rs := [6]) (by kernel_rfl) (by simp) ?_
      refine AllReadyH.cons rfl (fun K hK => ?_) AllReadyH.nil
      simp only [List.getElem_toArray, List.getElem_cons_succ, List.getElem_cons_zero]
      go_simp
      (go_at_call 19; refine HD.out.mono ?_; rintro e V2 ⟨rfl, h2⟩; have H2 := Lib.hid h2; clear h2)
      obtain ⟨la, lc, hA⟩ := own_docOpen H2.out.swap
      obtain ⟨_, ht⟩ := own_docM hA (List.mem_cons_self ..)
      have q1 := ht.c0
      rw [HNn.out] at q1
      have HL2 := Lib.hid (own_tabLen H2.out)
      rw [HNn.out] at HL2
      clear hA ht
      refine hK.out _ _ (HX2.out V2 H2.out.low) (fun hH1 => ?_)
      clear hK K hH0
      try simp only [List.getElem_toArray, List.getElem_cons_succ, List.getElem_cons_zero, Act.put, List.setIfInBounds_toArray, List.set_cons_zero, List.set_cons_succ]
      refine wpAnyH_take (i := 7) (v := ?v7) rfl (by kernel_rfl) (by kernel_rfl) (by kernel_rfl) (fun _ _ _ h => h) (Or.inl ⟨by rfl, ?hy7⟩) hH1 ?rest7
      case hy7 => (intro Wx hSw; (try dsimp only at hSw); go_simp; all_goals (with_reducible rfl))
      try simp only [List.getElem_toArray, List.getElem_cons_succ, List.getElem_cons_zero, Act.put, List.setIfInBounds_toArray, List.set_cons_zero, List.set_cons_succ]
      refine wpAnyH_take (i := 8) (v := ?v8) rfl (by kernel_rfl) (by kernel_rfl) (by kernel_rfl) (fun _ _ _ h => h) (Or.inl ⟨by rfl, ?hy8⟩) hH1 ?rest8
      case hy8 => (intro Wx hSw; (try dsimp only at hSw); go_simp; all_goals (with_reducible rfl))
      try simp only [List.getElem_toArray, List.getElem_cons_succ, List.getElem_cons_zero, Act.put, List.setIfInBounds_toArray, List.set_cons_zero, List.set_cons_succ]
      refine wpAnyH_mono (S' := (fun V => (V.cell? ⟨lb, lo + j * 6, none⟩ = some (.int .i64 ask) ∧ V.cell? ⟨lb, lo + j * 6 + 1, none⟩ = some (.string ⟨k.toArray⟩) ∧ V.cell? ⟨lb, lo + j * 6 + 2, none⟩ = some (.int .i64 r0) ∧ V.cell? ⟨lb, lo + j * 6 + 3, none⟩ = some (.int .i64 r1) ∧ V.cell? ⟨lb, lo + j * 6 + 4, none⟩ = some (.int .i64 r2) ∧ V.cell? ⟨lb, lo + j * 6 + 5, none⟩ = some (.int .i64 r3)) ∧ V.cell? ⟨r, 0, none⟩ = some (.slice la Nn lc))) (fun _ h => h.1) _ _ _ _ ?_
      have hH2 := And.intro hH1 q1
      clear hH1
      refine wpAnyH_take (i := 9) (v := ?v9) rfl (by kernel_rfl) (by kernel_rfl) (by kernel_rfl) (fun _ _ _ h => h) (Or.inl ⟨by rfl, ?hy9⟩) hH2 ?rest9
      case hy9 => (intro Wx hSw; (try dsimp only at hSw); go_simp; all_goals (with_reducible rfl))
      try simp only [List.getElem_toArray, List.getElem_cons_succ, List.getElem_cons_zero, Act.put, List.setIfInBounds_toArray, List.set_cons_zero, List.set_cons_succ]
      refine wpAnyH_take (i := 11) (v := ?v11) rfl (by kernel_rfl) (by kernel_rfl) (by kernel_rfl) (fun _ _ _ h => h) (Or.inl ⟨by rfl, ?hy11⟩) hH2 ?rest11
      case hy11 => (intro Wx hSw; (try dsimp only at hSw); go_simp; all_goals (with_reducible rfl))
      try simp only [List.getElem_toArray, List.getElem_cons_succ, List.getElem_cons_zero, Act.put, List.setIfInBounds_toArray, List.set_cons_zero, List.set_cons_succ]
      refine wpAnyH_take (i := 12) (v := ?v12) rfl (by kernel_rfl) (by kernel_rfl) (by kernel_rfl) (fun _ _ _ h => h) (Or.inl ⟨by rfl, ?hy12⟩) hH2 ?rest12
      case hy12 => (intro Wx hSw; (try dsimp only at hSw); go_simp; all_goals (with_reducible rfl))
      try simp only [List.getElem_toArray, List.getElem_cons_succ, List.getElem_cons_zero, Act.put, List.setIfInBounds_toArray, List.set_cons_zero, List.set_cons_succ]
      refine wpAnyH_take (i := 13) (v := ?v13) rfl (by kernel_rfl) (by kernel_rfl) (by kernel_rfl) (fun _ _ _ h => h) (Or.inl ⟨by rfl, ?hy13⟩) hH2 ?rest13
      case hy13 => (intro Wx hSw; (try dsimp only at hSw); go_simp; all_goals (with_reducible rfl))
      try simp only [List.getElem_toArray, List.getElem_cons_succ, List.getElem_cons_zero, Act.put, List.setIfInBounds_toArray, List.set_cons_zero, List.set_cons_succ]
      refine wpAnyH_take (i := 14) (v := ?v14) rfl (by kernel_rfl) (by kernel_rfl) (by kernel_rfl) (fun _ _ _ h => h) (Or.inl ⟨by rfl, ?hy14⟩) hH2 ?rest14
      case hy14 => (intro Wx hSw; (try dsimp only at hSw); go_simp; all_goals (with_reducible rfl))
      try simp only [List.getElem_toArray, List.getElem_cons_succ, List.getElem_cons_zero, Act.put, List.setIfInBounds_toArray, List.set_cons_zero, List.set_cons_succ]
      refine wpAnyH_take (i := 15) (v := ?v15) rfl (by kernel_rfl) (by kernel_rfl) (by kernel_rfl) (fun _ _ _ h => h) (Or.inl ⟨by rfl, ?hy15⟩) hH2 ?rest15
      case hy15 => (intro Wx hSw; (try dsimp only at hSw); go_simp; all_goals (with_reducible rfl))
      try simp only [List.getElem_toArray, List.getElem_cons_succ, List.getElem_cons_zero, Act.put, List.setIfInBounds_toArray, List.set_cons_zero, List.set_cons_succ]
      refine wpAnyH_ready (rs := [10]) (by kernel_rfl) (by simp) ?_
      refine AllReadyH.cons rfl (fun K hK => ?_) AllReadyH.nil
      simp only [List.getElem_toArray, List.getElem_cons_succ, List.getElem_cons_zero]
      go_simp
      (go_at_call 15; refine HL2.out.mono ?_; rintro e V3 ⟨rfl, rfl⟩)
      refine hK.out _ _ (hH2) (fun hH3 => ?_)
      clear hK K hH2
      try simp only [List.getElem_toArray, List.getElem_cons_succ, List.getElem_cons_zero, Act.put, List.setIfInBounds_toArray, List.set_cons_zero, List.set_cons_succ]
      refine wpAnyH_take (i := 16) (v := ?v16) rfl (by kernel_rfl) (by kernel_rfl) (by kernel_rfl) (fun _ _ _ h => h) (Or.inl ⟨by rfl, ?hy16⟩) hH3 ?rest16
      case hy16 => (intro Wx hSw; (try dsimp only at hSw); go_simp; all_goals (with_reducible rfl))
      try simp only [List.getElem_toArray, List.getElem_cons_succ, List.getElem_cons_zero, Act.put, List.setIfInBounds_toArray, List.set_cons_zero, List.set_cons_succ]
      refine wpAnyH_take (i := 17) (v := ?v17) rfl (by kernel_rfl) (by kernel_rfl) (by kernel_rfl) (fun _ _ _ h => h) (Or.inl ⟨by rfl, ?hy17⟩) hH3 ?rest17
      case hy17 => (intro Wx hSw; (try dsimp only at hSw); go_simp; all_goals (with_reducible rfl))
      try simp only [List.getElem_toArray, List.getElem_cons_succ, List.getElem_cons_zero, Act.put, List.setIfInBounds_toArray, List.set_cons_zero, List.set_cons_succ]
      refine wpAnyH_done (by kernel_rfl) ?_ _
      go_wp2
      go_roundw
      case rel => exact ⟨j + 1, by omega, by go_num, H2⟩
      case measure => simp [intOf]; omega
    · obtain rfl : j = l.length := by omega
      have k1 : ¬ (l.length : Int) < (l.length : Int) := by omega
      rw [List.take_length] at HJ
      have HSm := Lib.hid (fun V (h : Own W.heap.size W [TabR tb most o (runT most l), DocR r most (runT most l)] V) => own_sameD h)
      obtain ⟨m0, _⟩ := HX.out _ HJ.out.low
      go_wp2
      refine wp_region_held_drew (S := (fun V => V.cell? ⟨w.heap.size, 0, none⟩ = some (.int .i64 most))) (by kernel_rfl) m0 (fun hH0b => ?_)
      refine wpAnyH_take (i := 0) (v := ?vb0) rfl (by kernel_rfl) (by kernel_rfl) (by kernel_rfl) (fun _ _ _ h => h) (Or.inl ⟨by rfl, ?hyb0⟩) hH0b ?restb0
      case hyb0 => (intro Wx hSw; (try dsimp only at hSw); go_simp; all_goals (with_reducible rfl))
      try simp only [List.getElem_toArray, List.getElem_cons_succ, List.getElem_cons_zero, Act.put, List.setIfInBounds_toArray, List.set_cons_zero, List.set_cons_succ]
      refine wpAnyH_take (i := 1) (v := ?vb1) rfl (by kernel_rfl) (by kernel_rfl) (by kernel_rfl) (fun _ _ _ h => h) (Or.inl ⟨by rfl, ?hyb1⟩) hH0b ?restb1
      case hyb1 => (intro Wx hSw; (try dsimp only at hSw); go_simp; all_goals (with_reducible rfl))
      try simp only [List.getElem_toArray, List.getElem_cons_succ, List.getElem_cons_zero, Act.put, List.setIfInBounds_toArray, List.set_cons_zero, List.set_cons_succ]
      refine wpAnyH_ready (rs := [2]) (by kernel_rfl) (by simp) ?_
      refine AllReadyH.cons rfl (fun K hK => ?_) AllReadyH.nil
      simp only [List.getElem_toArray, List.getElem_cons_succ, List.getElem_cons_zero]
      go_simp
      (go_at_call 20; refine (HSm.out _ (HJ.out.later (below_drewN wr 1))).mono ?_; rintro e V2 ⟨rfl, hb⟩; have H2 := Lib.hid ((HJ.out.later (below_drewN wr 1)).later hb); clear hb)
      refine hK.out _ _ ((HX.out _ H2.out.low).1) (fun hH1b => ?_)
      clear hK K hH0b
      try simp only [List.getElem_toArray, List.getElem_cons_succ, List.getElem_cons_zero, Act.put, List.setIfInBounds_toArray, List.set_cons_zero, List.set_cons_succ]
      refine wpAnyH_take (i := 3) (v := ?vb3) rfl (by kernel_rfl) (by kernel_rfl) (by kernel_rfl) (fun _ _ _ h => h) (Or.inl ⟨by rfl, ?hyb3⟩) hH1b ?restb3
      case hyb3 => (intro Wx hSw; (try dsimp only at hSw); go_simp; all_goals (with_reducible rfl))
      try simp only [List.getElem_toArray, List.getElem_cons_succ, List.getElem_cons_zero, Act.put, List.setIfInBounds_toArray, List.set_cons_zero, List.set_cons_succ]
      refine wpAnyH_take (i := 4) (v := ?vb4) rfl (by kernel_rfl) (by kernel_rfl) (by kernel_rfl) (fun _ _ _ h => h) (Or.inl ⟨by rfl, ?hyb4⟩) hH1b ?restb4
      case hyb4 => (intro Wx hSw; (try dsimp only at hSw); go_simp; all_goals (with_reducible rfl))
      try simp only [List.getElem_toArray, List.getElem_cons_succ, List.getElem_cons_zero, Act.put, List.setIfInBounds_toArray, List.set_cons_zero, List.set_cons_succ]
      refine wpAnyH_take (i := 6) (v := ?vb6) rfl (by kernel_rfl) (by kernel_rfl) (by kernel_rfl) (fun _ _ _ h => h) (Or.inl ⟨by rfl, ?hyb6⟩) hH1b ?restb6
      case hyb6 => (intro Wx hSw; (try dsimp only at hSw); go_simp; all_goals (with_reducible rfl))
      try simp only [List.getElem_toArray, List.getElem_cons_succ, List.getElem_cons_zero, Act.put, List.setIfInBounds_toArray, List.set_cons_zero, List.set_cons_succ]
      refine wpAnyH_take (i := 7) (v := ?vb7) rfl (by kernel_rfl) (by kernel_rfl) (by kernel_rfl) (fun _ _ _ h => h) (Or.inl ⟨by rfl, ?hyb7⟩) hH1b ?restb7
      case hyb7 => (intro Wx hSw; (try dsimp only at hSw); go_simp; all_goals (with_reducible rfl))
      try simp only [List.getElem_toArray, List.getElem_cons_succ, List.getElem_cons_zero, Act.put, List.setIfInBounds_toArray, List.set_cons_zero, List.set_cons_succ]
      refine wpAnyH_ready (rs := [5]) (by kernel_rfl) (by simp) ?_
      refine AllReadyH.cons rfl (fun K hK => ?_) AllReadyH.nil
      simp only [List.getElem_toArray, List.getElem_cons_succ, List.getElem_cons_zero]
      go_simp
      (go_at_call 21; refine (own_tabMost H2.out).mono ?_; rintro e V3 ⟨rfl, rfl⟩)
      refine hK.out _ _ (hH1b) (fun hH2b => ?_)
      clear hK K hH1b
      try simp only [List.getElem_toArray, List.getElem_cons_succ, List.getElem_cons_zero, Act.put, List.setIfInBounds_toArray, List.set_cons_zero, List.set_cons_succ]
      refine wpAnyH_take (i := 8) (v := ?vb8) rfl (by kernel_rfl) (by kernel_rfl) (by kernel_rfl) (fun _ _ _ h => h) (Or.inl ⟨by rfl, ?hyb8⟩) hH2b ?restb8
      case hyb8 => (intro Wx hSw; (try dsimp only at hSw); go_simp; all_goals (with_reducible rfl))
      try simp only [List.getElem_toArray, List.getElem_cons_succ, List.getElem_cons_zero, Act.put, List.setIfInBounds_toArray, List.set_cons_zero, List.set_cons_succ]
      refine wpAnyH_take (i := 9) (v := ?vb9) rfl (by kernel_rfl) (by kernel_rfl) (by kernel_rfl) (fun _ _ _ h => h) (Or.inl ⟨by rfl, ?hyb9⟩) hH2b ?restb9
      case hyb9 => (intro Wx hSw; (try dsimp only at hSw); go_simp; all_goals (with_reducible rfl))
      try simp only [List.getElem_toArray, List.getElem_cons_succ, List.getElem_cons_zero, Act.put, List.setIfInBounds_toArray, List.set_cons_zero, List.set_cons_succ]
      refine wpAnyH_take (i := 10) (v := ?vb10) rfl (by kernel_rfl) (by kernel_rfl) (by kernel_rfl) (fun _ _ _ h => h) (Or.inl ⟨by rfl, ?hyb10⟩) hH2b ?restb10
      case hyb10 => (intro Wx hSw; (try dsimp only at hSw); go_simp; all_goals (with_reducible rfl))
      try simp only [List.getElem_toArray, List.getElem_cons_succ, List.getElem_cons_zero, Act.put, List.setIfInBounds_toArray, List.set_cons_zero, List.set_cons_succ]
      refine wpAnyH_ready (rs := [11]) (by kernel_rfl) (by simp) ?_
      refine AllReadyH.cons rfl (fun K hK => ?_) AllReadyH.nil
      simp only [List.getElem_toArray, List.getElem_cons_succ, List.getElem_cons_zero]
      go_simp
      (go_at_call 12; refine (HA.out _).mono ?_; rintro e V4 ⟨rfl, hb⟩; have H4 := Lib.hid (H2.out.low.trans (hb.mono H2.out.low.size)); clear hb)
      refine hK.out _ _ ((HX.out _ H4.out).1) (fun hH3b => ?_)
      clear hK K hH2b
      try simp only [List.getElem_toArray, List.getElem_cons_succ, List.getElem_cons_zero, Act.put, List.setIfInBounds_toArray, List.set_cons_zero, List.set_cons_succ]
      refine wpAnyH_take (i := 12) (v := ?vb12) rfl (by kernel_rfl) (by kernel_rfl) (by kernel_rfl) (fun _ _ _ h => h) (Or.inl ⟨by rfl, ?hyb12⟩) hH3b ?restb12
      case hyb12 => (intro Wx hSw; (try dsimp only at hSw); go_simp; all_goals (with_reducible rfl))
      try simp only [List.getElem_toArray, List.getElem_cons_succ, List.getElem_cons_zero, Act.put, List.setIfInBounds_toArray, List.set_cons_zero, List.set_cons_succ]
      refine wpAnyH_take (i := 13) (v := ?vb13) rfl (by kernel_rfl) (by kernel_rfl) (by kernel_rfl) (fun _ _ _ h => h) (Or.inl ⟨by rfl, ?hyb13⟩) hH3b ?restb13
      case hyb13 => (intro Wx hSw; (try dsimp only at hSw); go_simp; all_goals (with_reducible rfl))
      try simp only [List.getElem_toArray, List.getElem_cons_succ, List.getElem_cons_zero, Act.put, List.setIfInBounds_toArray, List.set_cons_zero, List.set_cons_succ]
      refine wpAnyH_done (by kernel_rfl) ?_ _
      go_wp2
      go_ret
      exact ⟨rfl, HEnd.out _ H4.out⟩
end Tb
end Go.Proofs.Ytecnijnmgdfdhaa
