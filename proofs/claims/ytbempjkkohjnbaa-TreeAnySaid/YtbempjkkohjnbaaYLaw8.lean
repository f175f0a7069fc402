/- Joined: Law8. -/
import Derived.Test.YtbempjkkohjnbaaYLaw7
import Derived.Test.YtbempjkkohjnbaaYTreeF
import Derived.Test.YtbempjkkohjnbaaYSep
/- The laws of package tree: TreePlays. -/
namespace Go.Proofs.Ytbempjkkohjnbaa
open Go.RowKit Tr
open Ky (less)

theorem two_same {B : Nat} {K : Foot} {w : World} {b o r : Nat} {L : List Pr} (T : TwoAt B K w b o r L L) (hn : L.length ≤ 900000) :
    Calls Try.prog 21 #[ptrV b, ptrV r] w fun e V => e = .returned (.bool true) ∧ Below w.heap.size w V := by
  obtain ⟨h, g, F, a, c, T⟩ := T
  exact same_any b o h g r F a c L w T.t T.e T.l hn
theorem two_ceilD {B : Nat} {K : Foot} {w : World} {b o r : Nat} {L1 L2 : List Pr} (key : Str) (T : TwoAt B K w b o r L1 L2) (hn : L2.length ≤ 900000) :
    Calls Try.prog 39 #[ptrV r, .string ⟨key.toArray⟩] w fun e V => e = .returned (.tuple #[.string ⟨(ckey (ceil key L2)).toArray⟩, .string ⟨(cval (ceil key L2)).toArray⟩, .int .i64 (ccode (ceil key L2))]) ∧ Below w.heap.size w V := by
  obtain ⟨h, g, F, a, c, T⟩ := T
  exact ceilD_any r F a c L2 key (by omega) w T.l
/-- What both count. -/
theorem Run.both {w wr : World} {b o r : Nat} {l : List TOp} {j : Nat} (h : Run w wr b o r l j) : ∃ la lc n, n = (runL (l.take j)).length ∧ wr.cell? ⟨b, 1, none⟩ = some (.int .i64 (n : Nat)) ∧ wr.cell? ⟨r, 0, none⟩ = some (.slice la n lc) := by
  obtain ⟨la, lc, h2⟩ := h.list
  exact ⟨la, lc, _, rfl, h.count, h2⟩
set_option maxHeartbeats 4000000 in
set_option maxRecDepth 100000 in
theorem treePlays_walk (order : Int) (a : Option Addr) (c : Nat) (l : List TOp) (key : Str) (w : World) (hr : Rd w 3 a l.length c (topsV l)) (hok : ∀ x ∈ l, OkTop x) :
    Calls Try.prog 10 #[.int .i64 order, .slice a l.length c, .string ⟨key.toArray⟩] w (Yes w) := by
  have hcap := hr.cap
  have hle := hr.le
  unfold maxLen at hcap
  have HA := Lib.hid (fun W => awake4_any W)
  by_cases ho : order < 2 ∨ 16 < order
  · have HN := Lib.hid (newT_bad order ho w)
    clear hr hok
    rcases ho with ho | ho
    · have hd : decide (order < 2) = true := by simpa using ho
      go_enter Try.func10, Try.ntmps10
      go_wp2_with (first
        | (go_at_call 17; refine HN.out.mono ?_; rintro e V ⟨rfl, rfl⟩)
        | (go_at_call 18; refine (HA.out _).mono ?_; rintro e V ⟨rfl, hb⟩; have HB := Lib.hid hb; clear hb))
      go_ret
      exact ⟨rfl, HB.out⟩
    · have hd : decide (order < 2) = false := by simp; omega
      have ho2 : ¬ order < 2 := by omega
      go_enter Try.func10, Try.ntmps10
      go_wp2_with (first
        | (go_at_call 17; refine HN.out.mono ?_; rintro e V ⟨rfl, rfl⟩)
        | (go_at_call 18; refine (HA.out _).mono ?_; rintro e V ⟨rfl, hb⟩; have HB := Lib.hid hb; clear hb))
      go_ret
      exact ⟨rfl, HB.out⟩
  obtain ⟨o, rfl⟩ : ∃ o : Nat, order = o := ⟨order.toNat, by omega⟩
  have HN := Lib.hid (newT_any o (by omega) (by omega) w)
  have HF := Lib.hid (fun W (h : Below w.heap.size w W) => few_any a c l (by omega) hok W (hr.later h))
  have ho1 : ¬ (o : Int) < 2 := by omega
  have ho2 : ¬ (16 : Int) < o := by omega
  have hN1 : ¬ o < 2 := by omega
  have hN2 : ¬ 16 < o := by omega
  by_cases hf : fewL l
  case neg =>
    have hff : decide (fewL l) = false := by simpa using hf
    rw [hff] at HF
    clear hr hok ho hf hff
    go_enter Try.func10, Try.ntmps10
    go_wp2_with (first
      | (go_at_call 17; refine HN.out.mono ?_; rintro e V ⟨b, g, rfl, t1, t2, t3, t4⟩; have H0 := Lib.hid t3; clear t1 t2 t3 t4)
      | (go_at_call 29; refine (HF.out _ H0.out).mono ?_; rintro e V ⟨rfl, rfl⟩)
      | (go_at_call 18; refine (HA.out _).mono ?_; rintro e V ⟨rfl, hb⟩; have HB := Lib.hid hb; clear hb))
    go_ret
    exact ⟨rfl, H0.out.trans (HB.out.mono H0.out.size)⟩
  have hff : decide (fewL l) = true := by simpa using hf
  have hl := hf.2
  rw [hff] at HF
  by_cases hk : 300 < key.length
  · have hk1 : (300 : Int) < (key.length : Int) := by omega
    clear hr hok ho hf hff
    go_enter Try.func10, Try.ntmps10
    go_wp2_with (first
      | (go_at_call 17; refine HN.out.mono ?_; rintro e V ⟨b, g, rfl, t1, t2, t3, t4⟩; have H0 := Lib.hid t3; clear t1 t2 t3 t4)
      | (go_at_call 29; refine (HF.out _ H0.out).mono ?_; rintro e V ⟨rfl, rfl⟩)
      | (go_at_call 18; refine (HA.out _).mono ?_; rintro e V ⟨rfl, hb⟩; have HB := Lib.hid hb; clear hb))
    go_ret
    exact ⟨rfl, H0.out.trans (HB.out.mono H0.out.size)⟩
  have hk1 : ¬ (300 : Int) < (key.length : Int) := by omega
  have HR := Lib.hid hr
  clear hr hok ho hf hff
  go_enter Try.func10, Try.ntmps10
  go_wp2_with (first
    | (go_at_call 17; refine HN.out.mono ?_; rintro e V ⟨b, g, rfl, t1, t2, t3, t4⟩; have H0 := Lib.hid t3; have H1 := Lib.hid (fun t => Run.start (l := l) (t := t) t1 t2 t3 t4); clear t1 t2 t3 t4)
    | (go_at_call 29; refine (HF.out _ H0.out).mono ?_; rintro e V ⟨rfl, rfl⟩))
  obtain ⟨r, hrr⟩ : ∃ r, V.heap.size = r := ⟨_, rfl⟩
  rw [hrr] at H1 ⊢
  clear hrr
  go_loopw [10] (fun i wr => ∃ (j : Nat), j ≤ l.length ∧ i = .int .i64 j ∧ Hid (Run w wr b o r l j)) (fun i _ => l.length - (intOf i).toNat)
  case atStart => exact ⟨0, by omega, rfl, Lib.hid (H1.out _)⟩
  case round =>
    obtain ⟨j, hj, rfl, HJ⟩ := hrel
    by_cases hlt : j < l.length
    · obtain ⟨⟨ask, key', v⟩, hx⟩ : ∃ x, l[j]? = some x := ⟨_, List.getElem?_eq_getElem hlt⟩
      obtain ⟨lb, lo, rfl, z0, z1, z2⟩ := top_at HR.out hx
      have HX : Hid ((∀ V, Below w.heap.size w V → V.cell? ⟨lb, lo + j * 3, none⟩ = some (.int .i64 ask)) ∧ (∀ V, Below w.heap.size w V → V.cell? ⟨lb, lo + j * 3 + 1, none⟩ = some (.string ⟨key'.toArray⟩)) ∧ (∀ V, Below w.heap.size w V → V.cell? ⟨lb, lo + j * 3 + 2, none⟩ = some (.string ⟨v.toArray⟩))) := Lib.hid ⟨fun V h => old_cell z0 h, fun V h => old_cell z1 h, fun V h => old_cell z2 h⟩
      have x0 := HX.out.1 _ HJ.out.2
      have x1 := HX.out.2.1 _ HJ.out.2
      have x2 := HX.out.2.2 _ HJ.out.2
      have HD := Lib.hid (fun W (h : Below wr.heap.size wr W) => (HJ.out.later h).does hx hl)
      have HL := Lib.hid (fun n W hc => lenT_any b n W hc)
      have k0 : (0 : Int) ≤ (j : Int) := by omega
      have k1 : (j : Int) < (l.length : Int) := by omega
      clear hx z0 z1 z2
      go_wp2
      refine wp_region_held_drew (S := (fun W => W.cell? ⟨lb, lo + j * 3, none⟩ = some (.int .i64 ask) ∧ W.cell? ⟨lb, lo + j * 3 + 1, none⟩ = some (.string ⟨key'.toArray⟩) ∧ W.cell? ⟨lb, lo + j * 3 + 2, none⟩ = some (.string ⟨v.toArray⟩))) (by kernel_rfl) ⟨x0, x1, x2⟩ (fun hH0 => ?_)
      refine wpAnyH_take (i := 0) (v := ?v0) rfl (by kernel_rfl) (by kernel_rfl) (by kernel_rfl) (fun _ _ _ h => h) (Or.inl ⟨by rfl, ?hy0⟩) hH0 ?rest0
      case hy0 => (intro Wx hSw; (try dsimp only at hSw); go_simp; all_goals (with_reducible rfl))
      try simp only [List.getElem_toArray, List.getElem_cons_zero, Act.put, List.setIfInBounds_toArray, List.set_cons_zero, List.set_cons_succ]
      refine wpAnyH_take (i := 1) (v := ?v1) rfl (by kernel_rfl) (by kernel_rfl) (by kernel_rfl) (fun _ _ _ h => h) (Or.inl ⟨by rfl, ?hy1⟩) hH0 ?rest1
      case hy1 => (intro Wx hSw; (try dsimp only at hSw); go_simp; all_goals (with_reducible rfl))
      try simp only [List.getElem_toArray, List.getElem_cons_succ, List.getElem_cons_zero, Act.put, List.setIfInBounds_toArray, List.set_cons_zero, List.set_cons_succ]
      refine wpAnyH_take (i := 2) (v := ?v2) rfl (by kernel_rfl) (by kernel_rfl) (by kernel_rfl) (fun _ _ _ h => h) (Or.inl ⟨by rfl, ?hy2⟩) hH0 ?rest2
      case hy2 => (intro Wx hSw; (try dsimp only at hSw); go_simp; all_goals (with_reducible rfl))
      try simp only [List.getElem_toArray, List.getElem_cons_succ, List.getElem_cons_zero, Act.put, List.setIfInBounds_toArray, List.set_cons_zero, List.set_cons_succ]
      refine wpAnyH_take (i := 3) (v := ?v3) rfl (by kernel_rfl) (by kernel_rfl) (by kernel_rfl) (fun _ _ _ h => h) (Or.inl ⟨by rfl, ?hy3⟩) hH0 ?rest3
      case hy3 => (intro Wx hSw; (try dsimp only at hSw); go_simp; all_goals (with_reducible rfl))
      try simp only [List.getElem_toArray, List.getElem_cons_succ, List.getElem_cons_zero, Act.put, List.setIfInBounds_toArray, List.set_cons_zero, List.set_cons_succ]
      refine wpAnyH_take (i := 4) (v := ?v4) rfl (by kernel_rfl) (by kernel_rfl) (by kernel_rfl) (fun _ _ _ h => h) (Or.inl ⟨by rfl, ?hy4⟩) hH0 ?rest4
      case hy4 => (intro Wx hSw; (try dsimp only at hSw); go_simp; all_goals (with_reducible rfl))
      try simp only [List.getElem_toArray, List.getElem_cons_succ, List.getElem_cons_zero, Act.put, List.setIfInBounds_toArray, List.set_cons_zero, List.set_cons_succ]
      refine wpAnyH_take (i := 5) (v := ?v5) rfl (by kernel_rfl) (by kernel_rfl) (by kernel_rfl) (fun _ _ _ h => h) (Or.inl ⟨by rfl, ?hy5⟩) hH0 ?rest5
      case hy5 => (intro Wx hSw; (try dsimp only at hSw); go_simp; all_goals (with_reducible rfl))
      try simp only [List.getElem_toArray, List.getElem_cons_succ, List.getElem_cons_zero, Act.put, List.setIfInBounds_toArray, List.set_cons_zero, List.set_cons_succ]
      refine wpAnyH_ready (rs := [6]) (by kernel_rfl) (by simp) ?_
      refine AllReadyH.cons rfl (fun K hK => ?_) AllReadyH.nil
      simp only [List.getElem_toArray, List.getElem_cons_succ, List.getElem_cons_zero]
      go_simp
      (go_at_call 30; refine (HD.out _ (below_drewN _ 1)).mono ?_; rintro e V2 ⟨rfl, H2⟩)
      obtain ⟨la, lc, n, hn, y1, y2⟩ := H2.out.both
      refine hK.out _ _ (⟨HX.out.1 V2 H2.out.2, HX.out.2.1 V2 H2.out.2, HX.out.2.2 V2 H2.out.2⟩) (fun hH1 => ?_)
      clear hK K hH0
      try simp only [List.getElem_toArray, List.getElem_cons_succ, List.getElem_cons_zero, Act.put, List.setIfInBounds_toArray, List.set_cons_zero, List.set_cons_succ]
      refine wpAnyH_take (i := 7) (v := ?v7) rfl (by kernel_rfl) (by kernel_rfl) (by kernel_rfl) (fun _ _ _ h => h) (Or.inl ⟨by rfl, ?hy7⟩) hH1 ?rest7
      case hy7 => (intro Wx hSw; (try dsimp only at hSw); go_simp; all_goals (with_reducible rfl))
      try simp only [List.getElem_toArray, List.getElem_cons_succ, List.getElem_cons_zero, Act.put, List.setIfInBounds_toArray, List.set_cons_zero, List.set_cons_succ]
      refine wpAnyH_take (i := 8) (v := ?v8) rfl (by kernel_rfl) (by kernel_rfl) (by kernel_rfl) (fun _ _ _ h => h) (Or.inl ⟨by rfl, ?hy8⟩) hH1 ?rest8
      case hy8 => (intro Wx hSw; (try dsimp only at hSw); go_simp; all_goals (with_reducible rfl))
      try simp only [List.getElem_toArray, List.getElem_cons_succ, List.getElem_cons_zero, Act.put, List.setIfInBounds_toArray, List.set_cons_zero, List.set_cons_succ]
      refine wpAnyH_mono (S' := fun W => (W.cell? ⟨lb, lo + j * 3, none⟩ = some (.int .i64 ask) ∧ W.cell? ⟨lb, lo + j * 3 + 1, none⟩ = some (.string ⟨key'.toArray⟩) ∧ W.cell? ⟨lb, lo + j * 3 + 2, none⟩ = some (.string ⟨v.toArray⟩)) ∧ W.cell? ⟨b, 1, none⟩ = some (.int .i64 n) ∧ W.cell? ⟨r, 0, none⟩ = some (.slice la n lc)) (fun _ h => h.1) _ _ _ _ ?_
      have hH2 := And.intro hH1 (And.intro y1 y2)
      clear hH1
      refine wpAnyH_take (i := 9) (v := ?v9) rfl (by kernel_rfl) (by kernel_rfl) (by kernel_rfl) (fun _ _ _ h => h) (Or.inl ⟨by rfl, ?hy9⟩) hH2 ?rest9
      case hy9 => (intro Wx hSw; (try dsimp only at hSw); go_simp; all_goals (with_reducible rfl))
      try simp only [List.getElem_toArray, List.getElem_cons_succ, List.getElem_cons_zero, Act.put, List.setIfInBounds_toArray, List.set_cons_zero, List.set_cons_succ]
      refine wpAnyH_take (i := 11) (v := ?v11) rfl (by kernel_rfl) (by kernel_rfl) (by kernel_rfl) (fun _ _ _ h => h) (Or.inl ⟨by rfl, ?hy11⟩) hH2 ?rest11
      case hy11 => (intro Wx hSw; (try dsimp only at hSw); go_simp; all_goals (with_reducible rfl))
      try simp only [List.getElem_toArray, List.getElem_cons_succ, List.getElem_cons_zero, Act.put, List.setIfInBounds_toArray, List.set_cons_zero, List.set_cons_succ]
      refine wpAnyH_take (i := 12) (v := ?v12) rfl (by kernel_rfl) (by kernel_rfl) (by kernel_rfl) (fun _ _ _ h => h) (Or.inl ⟨by rfl, ?hy12⟩) hH2 ?rest12
      case hy12 => (intro Wx hSw; (try dsimp only at hSw); go_simp; all_goals (with_reducible rfl))
      try simp only [List.getElem_toArray, List.getElem_cons_succ, List.getElem_cons_zero, Act.put, List.setIfInBounds_toArray, List.set_cons_zero, List.set_cons_succ]
      refine wpAnyH_take (i := 13) (v := ?v13) rfl (by kernel_rfl) (by kernel_rfl) (by kernel_rfl) (fun _ _ _ h => h) (Or.inl ⟨by rfl, ?hy13⟩) hH2 ?rest13
      case hy13 => (intro Wx hSw; (try dsimp only at hSw); go_simp; all_goals (with_reducible rfl))
      try simp only [List.getElem_toArray, List.getElem_cons_succ, List.getElem_cons_zero, Act.put, List.setIfInBounds_toArray, List.set_cons_zero, List.set_cons_succ]
      refine wpAnyH_take (i := 14) (v := ?v14) rfl (by kernel_rfl) (by kernel_rfl) (by kernel_rfl) (fun _ _ _ h => h) (Or.inl ⟨by rfl, ?hy14⟩) hH2 ?rest14
      case hy14 => (intro Wx hSw; (try dsimp only at hSw); go_simp; all_goals (with_reducible rfl))
      try simp only [List.getElem_toArray, List.getElem_cons_succ, List.getElem_cons_zero, Act.put, List.setIfInBounds_toArray, List.set_cons_zero, List.set_cons_succ]
      refine wpAnyH_take (i := 15) (v := ?v15) rfl (by kernel_rfl) (by kernel_rfl) (by kernel_rfl) (fun _ _ _ h => h) (Or.inl ⟨by rfl, ?hy15⟩) hH2 ?rest15
      case hy15 => (intro Wx hSw; (try dsimp only at hSw); go_simp; all_goals (with_reducible rfl))
      try simp only [List.getElem_toArray, List.getElem_cons_succ, List.getElem_cons_zero, Act.put, List.setIfInBounds_toArray, List.set_cons_zero, List.set_cons_succ]
      refine wpAnyH_ready (rs := [10]) (by kernel_rfl) (by simp) ?_
      refine AllReadyH.cons rfl (fun K hK => ?_) AllReadyH.nil
      simp only [List.getElem_toArray, List.getElem_cons_succ, List.getElem_cons_zero]
      go_simp
      (go_at_call 31; refine (HL.out _ _ hH2.2.1).mono ?_; rintro e V3 ⟨rfl, rfl⟩)
      refine hK.out _ _ (hH2) (fun hH3 => ?_)
      clear hK K hH2
      try simp only [List.getElem_toArray, List.getElem_cons_succ, List.getElem_cons_zero, Act.put, List.setIfInBounds_toArray, List.set_cons_zero, List.set_cons_succ]
      refine wpAnyH_take (i := 16) (v := ?v16) rfl (by kernel_rfl) (by kernel_rfl) (by kernel_rfl) (fun _ _ _ h => h) (Or.inl ⟨by rfl, ?hy16⟩) hH3 ?rest16
      case hy16 => (intro Wx hSw; (try dsimp only at hSw); go_simp; all_goals (with_reducible rfl))
      try simp only [List.getElem_toArray, List.getElem_cons_succ, List.getElem_cons_zero, Act.put, List.setIfInBounds_toArray, List.set_cons_zero, List.set_cons_succ]
      refine wpAnyH_take (i := 17) (v := ?v17) rfl (by kernel_rfl) (by kernel_rfl) (by kernel_rfl) (fun _ _ _ h => h) (Or.inl ⟨by rfl, ?hy17⟩) hH3 ?rest17
      case hy17 => (intro Wx hSw; (try dsimp only at hSw); go_simp; all_goals (with_reducible rfl))
      try simp only [List.getElem_toArray, List.getElem_cons_succ, List.getElem_cons_zero, Act.put, List.setIfInBounds_toArray, List.set_cons_zero, List.set_cons_succ]
      refine wpAnyH_done (by kernel_rfl) ?_ _
      go_wp2
      go_roundw
      case rel => exact ⟨j + 1, by omega, by go_num, H2⟩
      case measure => simp [intOf]; omega
    · obtain rfl : j = l.length := by omega
      have hL : (runL l).length ≤ l.length := run_len l
      have HT : Hid (TwoAt w.heap.size noCells wr b o r (runL l) (runL l) ∧ Below w.heap.size w wr) := Lib.hid (by have := HJ.out; unfold Run at this; rwa [List.take_length] at this)
      obtain ⟨L, hLL⟩ : ∃ L, runL l = L := ⟨_, rfl⟩
      rw [hLL] at HT hL
      obtain ⟨ck, hck⟩ : ∃ ck, ckey (ceil key L) = ck := ⟨_, rfl⟩
      obtain ⟨cv, hcv⟩ : ∃ cv, cval (ceil key L) = cv := ⟨_, rfl⟩
      obtain ⟨cc, hcc⟩ : ∃ cc, ccode (ceil key L) = cc := ⟨_, rfl⟩
      have HC := Lib.hid (two_ceil key HT.out.1)
      have HCD := Lib.hid (fun W (h : Below wr.heap.size wr W) => two_ceilD key (HT.out.1.later h) (by omega))
      have HS := Lib.hid (fun W (h : Below wr.heap.size wr W) => two_same (HT.out.1.later h) (by omega))
      rw [hck, hcv, hcc] at HC HCD
      have q1 := eql_self 9 ck
      have q2 := eql_self 9 cv
      clear HJ hL hLL hck hcv hcc
      go_wp2_with (first
        | (go_at_call 32; refine HC.out.mono ?_; rintro e V1 ⟨rfl, hb⟩; have B1 := Lib.hid hb; clear hb)
        | (go_at_call 39; refine (HCD.out _ B1.out).mono ?_; rintro e V2 ⟨rfl, hb⟩; have B2 := Lib.hid (B1.out.trans (hb.mono B1.out.size)); clear hb)
        | (go_at_call 21; refine (HS.out _ B2.out).mono ?_; rintro e V3 ⟨rfl, hb⟩; have B3 := Lib.hid (B2.out.trans (hb.mono B2.out.size)); clear hb)
        | (go_at_call 18; refine (HA.out _).mono ?_; rintro e V5 ⟨rfl, hb⟩; have HB := Lib.hid hb; clear hb))
      go_ret
      have b1 := HT.out.2.trans (B3.out.mono HT.out.2.size)
      exact ⟨rfl, b1.trans (HB.out.mono b1.size)⟩
end Go.Proofs.Ytbempjkkohjnbaa
