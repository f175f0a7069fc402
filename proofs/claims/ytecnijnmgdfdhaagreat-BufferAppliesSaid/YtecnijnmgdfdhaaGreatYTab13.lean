/- Joined: Tab13. -/
import Derived.Test.YtecnijnmgdfdhaaGreatYTabD
/- table.Same; what a nil table answers. -/
namespace Go.Proofs.YtecnijnmgdfdhaaGreat
namespace Tb
open Go.RowKit Tr
open Ky (less)
attribute [local go_sem] Oper.semAt_some
theorem sorted_sub : ∀ {L2 L1 : List Pr}, Sorted L1 → Sorted L2 → (∀ p ∈ L1, p ∈ L2) → L1.length ≤ L2.length ∧ (L1.length = L2.length → L1 = L2)
  | [], [], _, _, _ => ⟨Nat.le_refl _, fun _ => rfl⟩
  | [], p :: L1, _, _, h => absurd (h p (by simp)) (by simp)
  | q :: L2, [], _, _, _ => ⟨by simp, fun h => by simp at h⟩
  | q :: L2, p :: L1, h1, h2, h => by
    have h1' := List.pairwise_cons.1 h1
    have h2' := List.pairwise_cons.1 h2
    by_cases e : p = q
    · subst e
      have := sorted_sub (L2 := L2) (L1 := L1) h1'.2 h2'.2 (fun x hx => by
        rcases List.mem_cons.1 (h x (List.mem_cons_of_mem _ hx)) with e | hm
        · subst e
          have := h1'.1 x hx
          rw [Ky.less_self] at this; cases this
        · exact hm)
      refine ⟨by simp; exact this.1, fun hl => ?_⟩
      rw [this.2 (by simpa using hl)]
    · have hp : p ∈ L2 := by
        rcases List.mem_cons.1 (h p (by simp)) with e2 | hm
        · exact absurd e2 e
        · exact hm
      have hlt := h2'.1 p hp
      have := sorted_sub (L2 := L2) (L1 := p :: L1) h1 h2'.2 (fun x hx => by
        rcases List.mem_cons.1 (h x hx) with e | hm
        · subst e
          rcases List.mem_cons.1 hx with rfl | hx
          · exact hp
          · have a1 := h1'.1 x hx
            rw [Ky.less_asymm hlt] at a1; cases a1
        · exact hm)
      have h3 := this.1
      simp only [List.length_cons] at h3 ⊢
      exact ⟨by omega, fun hl => by omega⟩
theorem same_of {L1 L2 : List Pr} (h1 : Sorted L1) (h2 : Sorted L2) (hl : L1.length = L2.length) (h : ∀ p ∈ L1, get p.1 L2 = some p.2) : L1 = L2 :=
  (sorted_sub h1 h2 (fun p hp => (mem_get h2).1 (h p hp))).2 hl
theorem same_no {L1 L2 : List Pr} (h2 : Sorted L2) {p : Pr} (hp : p ∈ L1) (h : get p.1 L2 ≠ some p.2) : L1 ≠ L2 := fun e => by
  subst e
  exact h (get_of h2 hp)
theorem Boxd.pass {v : Value} {W0 W1 Wa : World} {Bx : Nat} {K : Nat → Prop} {pre pre' : List Pr} (hB : Bx < W0.heap.size) (h : Boxd (fun _ : List Pr => v) W0 Bx K pre W1) (hb : Below W1.heap.size W1 Wa) (S : Foot) :
    Fr S W1 Wa ∧ Boxd (fun _ : List Pr => v) W0 Bx K pre' Wa := by
  obtain ⟨h1, h2, h3, h4⟩ := h
  have hs := h3.size
  have hs2 := hb.size
  exact ⟨Fr.ofBelow hb S, old_cell h1 hb, (hb.frozen (p := ⟨Bx, 0, none⟩) (show Bx < W1.heap.size by omega)).trans h2, h3.trans (Fr.ofBelow hb noCells) (fun _ _ h => h.elim), fun k hk => by have := h4 k hk; omega⟩
theorem Boxd.below {v : Value} {W0 W1 : World} {Bx B : Nat} {K : Nat → Prop} {pre : List Pr} (h : Boxd (fun _ : List Pr => v) W0 Bx K pre W1) (hB : B ≤ W0.heap.size) (hB2 : B ≤ Bx) : Below B W0 W1 :=
  h.2.2.1.below hB (fun k _ e => by rw [e]; exact hB2)
section
variable {B : Nat} {w0 w V : World} {X Y : List Rs} {tb most o t1 m1 o1 t2 m2 o2 : Nat} {L L1 L2 : List Pr}
/-- The row that is looked for, and the one that is found. -/
theorem got_row (ok1 : OkT L1) (ok2 : OkT L2) (hs2 : Sorted L2) {p : Pr} (hp : p ∈ L1) :
    (get p.1 L2 = some p.2 ∧ getR p.1 L2 = decT p.2 ∧ getE p.1 L2 = 0) ∨ (get p.1 L2 ≠ some p.2 ∧ ((getE p.1 L2 = 14 ∧ get p.1 L2 = none) ∨ (getE p.1 L2 = 0 ∧ getR p.1 L2 ≠ decT p.2))) := by
  have hk := (ok1 p hp).1
  cases hg : get p.1 L2 with
  | none => exact .inr ⟨by simp, .inl ⟨by unfold getE; rw [hk, hg]; rfl, rfl⟩⟩
  | some s =>
    by_cases e : s = p.2
    · subst e
      exact .inl ⟨rfl, by unfold getR; rw [hk, hg]; rfl, by unfold getE; rw [hk, hg]; rfl⟩
    · refine .inr ⟨fun h => e (Option.some.inj h), .inr ⟨by unfold getE; rw [hk, hg]; rfl, fun h => e ?_⟩⟩
      unfold getR at h
      rw [hk, hg] at h
      simp only [if_true] at h
      rw [← (ok1.in4 hp).2, ← (ok2.got hg hs2).2, h]
set_option maxHeartbeats 4000000 in
set_option maxRecDepth 100000 in
theorem own_tabSame (h : Own B w0 (TabR t1 m1 o1 L1 :: TabR t2 m2 o2 L2 :: X) w) :
    Calls Tryz.prog 34 #[ptrV t1, ptrV t2] w fun e V => e = .returned (.bool (decide (L1 = L2))) ∧ Below w.heap.size w V := by
  have ok1 := own_tabOk h
  have ok2 := own_tabOk h.swap
  have hs1 : Sorted L1 := own_tabSorted h
  have hs2 : Sorted L2 := own_tabSorted h.swap
  have hb0 : Below w.heap.size w ((w.alloc (.cells #[ptrV t2] 29)).alloc (.cells #[.bool false] 4)) := (al1 w _).trans ((al1 (w.alloc (.cells #[ptrV t2] 29)) _).mono (by simp))
  obtain ⟨W, hW⟩ : ∃ W, (w.alloc (.cells #[ptrV t2] 29)).alloc (.cells #[.bool false] 4) = W := ⟨_, rfl⟩
  have s1 : W.heap.size = w.heap.size + 2 := by rw [← hW]; simp
  have x0 : W.cell? ⟨w.heap.size, 0, none⟩ = some (ptrV t2) := by rw [← hW]; simp
  have x2 : W.cell? ⟨w.heap.size + 1, 0, none⟩ = some (.bool false) := by rw [← hW]; simp
  have x3 : W.frozen? ⟨w.heap.size + 1, 0, none⟩ = false := by rw [← hW]; simp
  rw [hW] at hb0
  have HX : Hid (∀ V, Below W.heap.size W V → V.cell? ⟨w.heap.size, 0, none⟩ = some (ptrV t2) ∧ V.cell? ⟨w.heap.size + 1, 0, none⟩ = some (.bool false) ∧ V.frozen? ⟨w.heap.size + 1, 0, none⟩ = false) := Lib.hid (fun V hb => ⟨old_cell x0 hb, old_cell x2 hb, (hb.frozen (p := ⟨w.heap.size + 1, 0, none⟩) (block_of_cell x2)).trans x3⟩)
  have HEnd : Hid (∀ V u, Below w.heap.size W V → Below w.heap.size w (V.setCell ⟨w.heap.size + 1, 0, none⟩ u)) := Lib.hid (fun V u h => (hb0.trans h).setCell (p := ⟨w.heap.size + 1, 0, none⟩) (Nat.le_succ _) _)
  have HUp : Hid (∀ V, Below W.heap.size W V → Below w.heap.size W V) := Lib.hid (fun V hb => hb.mono hb0.size)
  have HUp2 : Hid (∀ V, Below W.heap.size W V → Below w.heap.size w V) := Lib.hid (fun V hb => hb0.trans (hb.mono hb0.size))
  obtain ⟨N1, hN1⟩ : ∃ N, L1.length = N := ⟨_, rfl⟩
  obtain ⟨N2, hN2⟩ : ∃ N, L2.length = N := ⟨_, rfl⟩
  have HL1 : Hid (∀ n, Calls Tryz.prog 26 #[ptrV t1] (W.drewN n) fun e V2 => e = .returned (.int .i64 (N1 : Nat)) ∧ V2 = W.drewN n) := Lib.hid (fun n => by rw [← hN1]; exact (own_tabLen ((h.later hb0).later (below_drewN W n))).mono (fun e V h => ⟨h.1, h.2.symm⟩))
  have HL2 : Hid (∀ n, Calls Tryz.prog 26 #[ptrV t2] (W.drewN n) fun e V2 => e = .returned (.int .i64 (N2 : Nat)) ∧ V2 = W.drewN n) := Lib.hid (fun n => by rw [← hN2]; exact (own_tabLen ((h.swap.later hb0).later (below_drewN W n))).mono (fun e V h => ⟨h.1, h.2.symm⟩))
  have HAll := Lib.hid (fun V (hb : Below W.heap.size W V) => own_tabAll (h.later (hb0.trans (hb.mono hb0.size))))
  have HGet := Lib.hid (fun V (hb : Below w.heap.size W V) k => own_tabGet k (h.swap.later (hb0.trans hb)))
  have HOk := Lib.hid (And.intro ok1 (And.intro ok2 (And.intro hs1 (And.intro hs2 (And.intro s1 (And.intro hN1 hN2))))))
  clear h ok1 ok2 hs1 hs2 hb0 s1 hN1 hN2
  refine calls_marks Tryz.func34 rfl ?_
  simp only [Tryz.ntmps34, List.size_toArray, List.length_cons, List.length_nil, Nat.reduceAdd, Nat.reduceSub, Array.replicate_succ, Array.replicate_zero, List.push_toArray, List.append_toArray, List.nil_append, List.cons_append]
  refine wpIn_wide.2 ?_
  by_cases hlen : N1 = N2
  case neg =>
    have k1 : ¬ (N1 : Int) = (N2 : Int) := by omega
    have HNe : Hid (decide (L1 = L2) = false) := Lib.hid (by
      have h1 := HOk.out.2.2.2.2.2
      simp only [decide_eq_false_iff_not]
      rintro rfl
      exact hlen (h1.1.symm.trans h1.2))
    rw [HNe.out]
    have tok1 : True := trivial
    clear hlen
    go_wp2
    clear x0 x2 x3
    obtain ⟨y0, y2, y3⟩ := HX.out _ (Below.refl _ _)
    go_quiet (first
      | (go_at_call 26; refine Calls.quiet_of_same (HL1.out _))
      | (go_at_call 26; refine Calls.quiet_of_same (HL2.out _)))
    obtain ⟨z0, z2, z3⟩ := HX.out _ (below_drewN W nq)
    go_wp2
    have hb := below_drewN W nq
    exact leave_none ⟨_, results_bool rfl _ _ (w.heap.size + 1) (.bool false) rfl (World.cell?_setCell_same' _ _ _ (by rw [z2]; rfl)), rfl, HEnd.out _ _ (HUp.out _ hb)⟩
  subst hlen
  go_wp2
  clear x0 x2 x3
  obtain ⟨y0, y2, y3⟩ := HX.out _ (Below.refl _ _)
  go_quiet (first
    | (go_at_call 26; refine Calls.quiet_of_same (HL1.out _))
    | (go_at_call 26; refine Calls.quiet_of_same (HL2.out _)))
  have HQ := Lib.hid (below_drewN W nq)
  clear y0 y2 y3
  go_wp2_with (go_at_call 51; refine (HAll.out _ HQ.out).mono ?_; rintro e V ⟨Bn, rfl, hAt, hb⟩; have HV := Lib.hid (And.intro hAt.out (HQ.out.trans (hb.mono HQ.out.size))); clear hAt hb)
  obtain ⟨R, hR1, hR2⟩ := HV.out.1.tells HOk.out.1.ok (by have := HOk.out.1.len; have := HOk.out.1.hi; omega)
  have HRr := Lib.hid (And.intro hR1 hR2)
  obtain ⟨u, hu⟩ : ∃ u, w.heap.size + 1 = u := ⟨_, rfl⟩
  have HU : Hid (w.heap.size + 1 = u ∧ u < V.heap.size ∧ w.heap.size < u ∧ V.cell? ⟨u, 0, none⟩ = some (.bool false) ∧ V.frozen? ⟨u, 0, none⟩ = false ∧ V.cell? ⟨w.heap.size, 0, none⟩ = some (ptrV t2)) := Lib.hid (by
    obtain ⟨y0, y2, y3⟩ := HX.out _ HV.out.2
    have := HV.out.2.size
    have := HOk.out.2.2.2.2.1
    rw [hu] at y2 y3
    exact ⟨hu, by omega, by omega, y2, y3, y0⟩)
  have HRu : Hid (∀ k, R k → k < V.heap.size ∧ k ≠ u) := Lib.hid (fun k hk => by
    have h1 := HRr.out.1 k hk
    have h2 := HOk.out.2.2.2.2.1
    have h3 := HU.out.1
    simp at h1
    omega)
  obtain ⟨p, hp⟩ : ∃ p, w.heap.size = p := ⟨_, rfl⟩
  have HP := Lib.hid hp
  rw [hu, hp]
  clear hR1 hR2 hu hp
  refine (wpIn_wide (n := 3)).1 ?_
  refine' wpIn_range_box (by omega) (gf := 80) (lb := #[.pointer (some ⟨Bn, 0, none⟩)]) rfl (enters_any Tryz.func80 (by kernel_rfl) rfl) (encs := rowE) (stops := True) (xs := L1) (R := R) (K0 := fun _ => False)
    (fun o1 o2 => HRr.out.2 _ ((al1 V o1).trans ((al1 (V.alloc o1) o2).mono (by simp)))) (fun x => rfl) (fun k hk => (HRu.out k hk).1) (fun k hk => hk.elim)
    (fun K pre W => Boxd (fun _ : List Pr => .bool false) V u K pre W ∧ ∀ p ∈ pre, get p.1 L2 = some p.2) (fun c K pre W => (Boxd (fun _ : List Pr => .bool false) V u K pre W ∧ L1 ≠ L2) ∧ c = .ret)
    (fun K K' pre W W' h hf hK => ⟨Boxd.clos HU.out.2.1 K K' pre W W' h.1 hf hK, h.2⟩) (fun c K K' pre W W' h hf hK => ⟨⟨Boxd.clos HU.out.2.1 K K' pre W W' h.1.1 hf hK, h.1.2⟩, h.2⟩) (.inl trivial) ⟨Boxd.start HU.out.2.2.2.1 HU.out.2.2.2.2.1, fun _ h => by cases h⟩
    (fun x => .cells #[.int .i64 (decT x.2).1, .int .i64 (decT x.2).2.1, .int .i64 (decT x.2).2.2.1, .int .i64 (decT x.2).2.2.2] 41) (fun K pre W h k hk => (h.1.2.2.2 k hk).2) _ ?assign ?body ?done ?stop
  case assign =>
    intro l' x W2 K1 hK1
    simp only [rowE, rowW]
    gi_wp2
    obtain ⟨r, hr⟩ : ∃ r, W2.heap.size = r := ⟨_, rfl⟩
    rw [hr] at hK1 ⊢
    exact hK1
  case body =>
    rintro l' r K pre x post W1 hx _ hI hbox hrK hrR hrS
    have hxm : x ∈ L1 := by rw [hx]; simp
    have hbV : Below w.heap.size V W1 := Boxd.below hI.1 (by have := HU.out; omega) (by have := HU.out.1; omega)
    have hbW : Below w.heap.size W W1 := (HUp.out _ HV.out.2).trans hbV
    have HG := Lib.hid (HGet.out W1 hbW x.1)
    have HI := Lib.hid hI
    have HB := Lib.hid hI.1
    have y0 : W1.cell? ⟨p, 0, none⟩ = some (ptrV t2) := cell_fr hI.1.2.2.1 (by rw [← HP.out]; exact HU.out.2.2.2.2.2) (by have := HU.out.2.2.1; have := HP.out; omega)
    have y2 := hI.1.1
    have y3 := hI.1.2.1
    have z0 : W1.cell? ⟨r, 0, none⟩ = some (.int .i64 (decT x.2).1) := (cell_of_row W1 r 0 _ _ _ hbox).trans rfl
    have z1 : W1.cell? ⟨r, 1, none⟩ = some (.int .i64 (decT x.2).2.1) := (cell_of_row W1 r 1 _ _ _ hbox).trans rfl
    have z2 : W1.cell? ⟨r, 2, none⟩ = some (.int .i64 (decT x.2).2.2.1) := (cell_of_row W1 r 2 _ _ _ hbox).trans rfl
    have z3 : W1.cell? ⟨r, 3, none⟩ = some (.int .i64 (decT x.2).2.2.2) := (cell_of_row W1 r 3 _ _ _ hbox).trans rfl
    have HC := Lib.hid (got_row HOk.out.1.ok HOk.out.2.1.ok HOk.out.2.2.2.1 hxm)
    have HNo : Hid (get x.1 L2 ≠ some x.2 → L1 ≠ L2) := Lib.hid (same_no HOk.out.2.2.2.1 hxm)
    clear hx hxm hI hbox hrK hrR hrS hbV hbW
    obtain ⟨xk, xv⟩ := x
    obtain ⟨⟨r0, r1, r2, r3⟩, hr4⟩ : ∃ r4, decT xv = r4 := ⟨_, rfl⟩
    simp only [hr4] at HC z0 z1 z2 z3 ⊢
    clear hr4
    obtain ⟨⟨q0, q1, q2, q3⟩, hq4⟩ : ∃ q4, getR xk L2 = q4 := ⟨_, rfl⟩
    obtain ⟨ec, hec⟩ : ∃ ec, getE xk L2 = ec := ⟨_, rfl⟩
    simp only [hq4, hec] at HG HC
    simp only [rowW] at HG
    clear hq4 hec
    have HMore : Hid (∀ V2, Below W1.heap.size W1 V2 → V2.cell? ⟨u, 0, none⟩ = some (.bool false) ∧ V2.frozen? ⟨u, 0, none⟩ = false ∧ V2.cell? ⟨r, 0, none⟩ = some (.int .i64 r0) ∧ V2.cell? ⟨r, 1, none⟩ = some (.int .i64 r1) ∧ V2.cell? ⟨r, 2, none⟩ = some (.int .i64 r2) ∧ V2.cell? ⟨r, 3, none⟩ = some (.int .i64 r3)) := Lib.hid (fun V2 hb => ⟨old_cell y2 hb, (hb.frozen (p := ⟨u, 0, none⟩) (block_of_cell y2)).trans y3, old_cell z0 hb, old_cell z1 hb, old_cell z2 hb, old_cell z3 hb⟩)
    clear y2 y3 z0 z1 z2 z3
    rcases HC.out with ⟨hm, hR, hE⟩ | ⟨hm, ⟨hE, _⟩ | ⟨hE, hR⟩⟩
    · cases hR
      subst hE
      have hq := Rw.neqRow r0 r1 r2 r3 r0 r1 r2 r3 true (by simp)
      have HM := Lib.hid hm
      clear hm
      gi_wp2_with (refine ⟨trivial, ?_⟩; gi_at_call 29; refine (calls_round l' HG.out).mono ?_; rintro e V5 ⟨rfl, hb⟩; have H5 := Lib.hid (hb.trans ((al1 V5 (.cells #[.int .i64 r0, .int .i64 r1, .int .i64 r2, .int .i64 r3] 41)).mono hb.size)); clear hb; obtain ⟨y2, y3, z0, z1, z2, z3⟩ := HMore.out _ H5.out)
      have hst := Boxd.pass (pre' := pre ++ [(xk, xv)]) HU.out.2.1 HB.out H5.out (fun k _ => ¬ K k ∧ ¬ R k)
      refine ⟨hst.1, hst.2, fun a hp => ?_⟩
      rcases List.mem_append.1 hp with hp | hp
      · exact HI.out.2 _ hp
      · have := List.mem_singleton.1 hp
        cases this
        exact HM.out
    · subst hE
      have HNE := Lib.hid (HNo.out hm)
      clear hm
      gi_wp2_with (refine ⟨trivial, ?_⟩; gi_at_call 29; refine (calls_round l' HG.out).mono ?_; rintro e V5 ⟨rfl, hb⟩; have H5 := Lib.hid (hb.trans ((al1 V5 (.cells #[.int .i64 q0, .int .i64 q1, .int .i64 q2, .int .i64 q3] 41)).mono hb.size)); clear hb; obtain ⟨y2, y3, z0, z1, z2, z3⟩ := HMore.out _ H5.out)
      have hst := Boxd.step (f := fun _ : List Pr => .bool false) (x := (xk, xv)) HU.out.2.1 HB.out H5.out R (fun k hk => (HRu.out k hk).2)
      exact ⟨hst.1, ⟨hst.2, HNE.out⟩, rfl⟩
    · subst hE
      have hq := Rw.neqRow q0 q1 q2 q3 r0 r1 r2 r3 false (by
        rw [← Bool.not_eq_true]
        intro h
        simp at h
        obtain ⟨h0, h1, h2, h3⟩ := h
        exact hR (by rw [h0, h1, h2, h3]))
      have HNE := Lib.hid (HNo.out hm)
      clear hm hR
      gi_wp2_with (refine ⟨trivial, ?_⟩; gi_at_call 29; refine (calls_round l' HG.out).mono ?_; rintro e V5 ⟨rfl, hb⟩; have H5 := Lib.hid (hb.trans ((al1 V5 (.cells #[.int .i64 q0, .int .i64 q1, .int .i64 q2, .int .i64 q3] 41)).mono hb.size)); clear hb; obtain ⟨y2, y3, z0, z1, z2, z3⟩ := HMore.out _ H5.out)
      have hst := Boxd.step (f := fun _ : List Pr => .bool false) (x := (xk, xv)) HU.out.2.1 HB.out H5.out R (fun k hk => (HRu.out k hk).2)
      exact ⟨hst.1, ⟨hst.2, HNE.out⟩, rfl⟩
  case stop =>
    rintro D cd K pre x post W3 hx ⟨⟨hB, hne⟩, rfl⟩ _ hKD hsD hDef
    have HE : Hid (decide (L1 = L2) = false) := Lib.hid (by simpa using hne)
    have H3 := Lib.hid (And.intro hB (And.intro hsD hDef))
    clear hx hB hne hKD hsD hDef
    gi_wp2
    obtain ⟨hB, hsD, hDef⟩ := H3.out
    refine leave_marks [D] W3 (by simp) (fun E hE => by simp at hE; subst hE; exact hDef) (fun W' hf => ?_)
    have hc : W'.cell? ⟨u, 0, none⟩ = some (.bool false) := cell_fr hf hB.1 (by simp; have := HU.out.2.1; omega)
    refine ⟨_, results_bool rfl _ W' u (.bool false) rfl hc, by rw [HE.out], ?_⟩
    have hbV : Below w.heap.size V W3 := Boxd.below hB (by have := HU.out; omega) (by have := HU.out.1; omega)
    have b3 : Below w.heap.size w W3 := (HUp2.out _ HV.out.2).trans hbV
    exact b3.trans (hf.below (B := w.heap.size) b3.size (fun k x e => by simp at e; subst e; have := HU.out; omega))
  case done =>
    rintro D K W3 ⟨hB, hm⟩ _ hKD hsD hDef
    have HE : Hid (decide (L1 = L2) = true) := Lib.hid (by
      obtain ⟨_, _, e1, e2, _, e3, e4⟩ := HOk.out
      simpa using same_of e1 e2 (e3.trans e4.symm) hm)
    have H3 := Lib.hid (And.intro hB (And.intro hsD hDef))
    have y2 := hB.1
    have y3 := hB.2.1
    clear hB hm hKD hsD hDef
    gi_wp2
    go_wp2
    obtain ⟨hB, hsD, hDef⟩ := H3.out
    have hne : D ≠ u := by have := HU.out.2.1; omega
    refine leave_marks [D] _ (by simp) (fun E hE => ?_) (fun W' hf => ?_)
    · simp at hE; subst hE
      exact (Below.heap_setCell W3 ⟨u, 0, none⟩ (.bool true) E hne).trans hDef
    · have hc : W'.cell? ⟨u, 0, none⟩ = some (.bool true) := cell_fr hf (show (W3.setCell ⟨u, 0, none⟩ (.bool true)).cell? ⟨u, 0, none⟩ = some (.bool true) from World.cell?_setCell_same' _ _ _ (by rw [y2]; rfl)) (by simp; omega)
      have hbV : Below w.heap.size V W3 := Boxd.below hB (by have := HU.out; omega) (by have := HU.out.1; omega)
      have b3 : Below w.heap.size w W3 := (HUp2.out _ HV.out.2).trans hbV
      have b4 : Below w.heap.size w (W3.setCell ⟨u, 0, none⟩ (.bool true)) := b3.setCell (p := ⟨u, 0, none⟩) (by have := HU.out.2.2.1; show w.heap.size ≤ u; omega) _
      exact ⟨_, results_bool rfl _ W' u (.bool true) rfl hc, by rw [HE.out], b4.trans (hf.below (B := w.heap.size) b4.size (fun k x e => by simp at e; subst e; have := HU.out; omega))⟩
end
end Tb
end Go.Proofs.YtecnijnmgdfdhaaGreat
