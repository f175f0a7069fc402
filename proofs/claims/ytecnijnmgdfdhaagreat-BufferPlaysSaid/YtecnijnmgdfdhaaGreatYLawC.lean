/- Joined: Tblaw20, Tblaw21. -/
import Derived.Test.YtecnijnmgdfdhaaGreatYLawA
import Derived.Test.YtecnijnmgdfdhaaGreatYTabC
namespace Go.Proofs.YtecnijnmgdfdhaaGreat
namespace Tb
open Go.RowKit Tr
open Ky (less)
attribute [local go_sem] Oper.semAt_some
def LeftB (S : Nat → Prop) (W0 : World) (p : Nat) (v : Value) (K : Nat → Prop) (_pre : List Pr) (W : World) : Prop :=
 W.cell? ⟨p, 0, none⟩ = some v ∧ Fr (fun k _ => S k) W0 W ∧ ∀ k, K k → W0.heap.size ≤ k ∧ k < W.heap.size
theorem LeftB.clos {S : Nat → Prop} {W0 : World} {p : Nat} {v : Value} (hp : p < W0.heap.size) : Clos (LeftB S W0 p v) := by
 intro K K' pre W W' ⟨h1, h2, h3⟩ hf hK
 have hpK : ¬ K p := fun h => by have := (h3 p h).1; omega
 refine ⟨cell_fr hf h1 hpK, h2.trans hf (fun b o hb => .inr (h3 b hb).1), fun k hk => ?_⟩
 have := hf.size
 have := h2.size
 rcases hK k hk with h | h
 ·have := h3 k h; omega
 ·omega
theorem Boxd.left {f : List Pr → Value} {W0 W1 : World} {Bx p : Nat} {v : Value} {K : Nat → Prop} {pre pre' : List Pr} (h : Boxd f W0 Bx K pre W1) (hp : p < W0.heap.size) {u : Value} (hc : W1.cell? ⟨p, 0, none⟩ = some u) (R : Nat → Prop) (hR : ∀ k, R k → k ≠ p) {Wa : World} (hb : Below W1.heap.size W1 Wa) :
  Fr (fun k _ => ¬ K k ∧ ¬ R k) W1 (Wa.setCell ⟨p, 0, none⟩ v) ∧ LeftB (fun k => k = Bx ∨ k = p) W0 p v K pre' (Wa.setCell ⟨p, 0, none⟩ v) := by
 obtain ⟨h1, h2, h3, h4⟩ := h
 have hpK : ¬ K p := fun h => by have := (h4 p h).1; omega
 have hs := h3.size
 have hs2 := hb.size
 refine ⟨(Fr.ofBelow hb _).setCell (.inl ⟨hpK, fun h => hR _ h rfl⟩) v, World.cell?_setCell_same' _ _ _ (by rw [old_cell hc hb]; rfl), ?_, fun k hk => ?_⟩
 ·exact ((h3.mono (fun _ _ e => .inl e)).trans (Fr.ofBelow hb noCells) (fun _ _ h => h.elim)).setCell (.inl (.inr rfl)) v
 ·have := h4 k hk; simp; omega
theorem same_row {L M : List Pr} (ok1 : OkT L) (ok2 : OkT M) {p q : Pr} (hp : p ∈ L) (hq : q ∈ M) (hk : p.1 = q.1) (hd : decT p.2 = decT q.2) : p = q := by
 refine Prod.ext hk ?_
 rw [← (ok1.in4 hp).2, ← (ok2.in4 hq).2, hd]
theorem snoc_take {M : List Pr} {pre : List Pr} {x : Pr} (h : pre = M.take pre.length) (hx : M[pre.length]? = some x) : pre ++ [x] = M.take (pre ++ [x]).length := by
 rw [List.length_append, List.length_singleton, List.take_add_one, hx, ← h]
 rfl
theorem differ {L M pre post : List Pr} {x : Pr} (h : L = pre ++ x :: post) (hx : M[pre.length]? ≠ some x) : L ≠ M := fun e => by
 subst e
 exact hx (by rw [h]; simp)
section
variable {B : Nat} {w0 w V : World} {X Y : List Rs} {tb r most m2 o : Nat} {L M : List Pr}
set_option maxHeartbeats 4000000 in
set_option maxRecDepth 100000 in
theorem own_sameG (h : Own B w0 (TabR tb most o L :: DocR r m2 M :: X) w) (okM : OkT M) (hM : M.length ≤ 100000) :
  Calls Tryz.prog 22 #[ptrV tb, ptrV r] w fun e V => e = .returned (.bool (decide (L = M))) ∧ Below w.heap.size w V := by
 have ok := own_tabOk h
 obtain ⟨la, lc, hA⟩ := own_docOpen h.swap
 obtain ⟨F, hl⟩ := own_docM hA (List.mem_cons_self ..)
 have hn : L.length ≤ 1024 := by have := ok.len; have := ok.hi; omega
 refine calls_marks Tryz.func22 rfl ?_
 simp only [Tryz.ntmps22, List.size_toArray, List.length_cons, List.length_nil, Nat.reduceAdd, Nat.reduceSub, Array.replicate_succ, Array.replicate_zero, List.push_toArray, List.append_toArray, List.nil_append, List.cons_append]
 have hb0 : Below w.heap.size w ((w.alloc (.cells #[ptrV r] 30)).alloc (.cells #[.bool false] 4)) := (al1 w _).trans ((al1 (w.alloc (.cells #[ptrV r] 30)) _).mono (by simp))
 obtain ⟨W1, hW1⟩ : ∃ W1, (w.alloc (.cells #[ptrV r] 30)).alloc (.cells #[.bool false] 4) = W1 := ⟨_, rfl⟩
 have s1 : W1.heap.size = w.heap.size + 2 := by rw [← hW1]; simp
 have c3 : W1.cell? ⟨w.heap.size, 0, none⟩ = some (ptrV r) := by rw [← hW1]; simp
 have c4 : W1.cell? ⟨w.heap.size + 1, 0, none⟩ = some (.bool false) := by rw [← hW1]; simp
 have f4 : W1.frozen? ⟨w.heap.size + 1, 0, none⟩ = false := by rw [← hW1]; simp
 rw [hW1] at hb0
 have HA := Lib.hid (own_tabAll (h.later hb0))
 have HLen := Lib.hid (fun V (hb : Below w.heap.size w V) => own_tabLen (h.later hb))
 have HD := Lib.hid (And.intro ok.ok (And.intro hl (And.intro hn (And.intro hb0 (And.intro s1 (And.intro c3 (And.intro c4 f4)))))))
 have HMk := Lib.hid (And.intro okM hM)
 clear h ok hA hl hn hb0 s1 c3 c4 f4 okM hM
 have q0 := fun x y w => eql_func_nil Tryz.underlying101 (.func 80) x y w
 refine wpIn_wide.2 ?_
 go_wp2_with (go_at_call 51; refine HA.out.mono ?_; rintro e V ⟨Bn, rfl, hAt, hb⟩; have HX := Lib.hid (And.intro hAt.out hb); clear hAt hb)
 obtain ⟨p, hp⟩ : ∃ p, w.heap.size = p := ⟨_, rfl⟩
 obtain ⟨u, hu⟩ : ∃ u, V.heap.size = u := ⟨_, rfl⟩
 obtain ⟨N, hN⟩ : ∃ N, L.length = N := ⟨_, rfl⟩
 obtain ⟨N2, hN2⟩ : ∃ N, M.length = N := ⟨_, rfl⟩
 have HN2 := Lib.hid hN2
 obtain ⟨W0, hW0⟩ : ∃ W0, V.alloc (.cells #[.int .i64 0] 3) = W0 := ⟨_, rfl⟩
 have HV := Lib.hid (And.intro hp (And.intro hu (And.intro hN hW0)))
 have HW : Hid (W0.heap.size = u + 1 ∧ p + 1 < u ∧ W0.cell? ⟨u, 0, none⟩ = some (.int .i64 0) ∧ W0.frozen? ⟨u, 0, none⟩ = false ∧ Below V.heap.size V W0) := Lib.hid (by
  have hs := HX.out.2.size
  have s1 := HD.out.2.2.2.2.1
  refine ⟨by rw [← hW0, ← hu]; simp, by omega, by rw [← hW0, ← hu]; simp, by rw [← hW0, ← hu]; simp, by rw [← hW0]; exact al1 V _⟩)
 have HK : Hid (∀ (W2 : World), Fr (fun k _ => k = u) W0 W2 → W2.cell? ⟨p, 0, none⟩ = some (ptrV r) ∧ W2.cell? ⟨p + 1, 0, none⟩ = some (.bool false) ∧ W2.frozen? ⟨p + 1, 0, none⟩ = false ∧ Tdl W2 r F la lc m2 M ∧ Below w.heap.size w W2) := Lib.hid (fun W2 hf => by
  obtain ⟨h1, h3, h4, h5, h6, h7, h8, h9⟩ := HD.out
  obtain ⟨k1, k3⟩ := HX.out
  have hbV : Below w.heap.size w V := h5.trans (k3.mono h5.size)
  have hbW : Below w.heap.size w W0 := hbV.trans (HW.out.2.2.2.2.mono hbV.size)
  have hb1 : Below W1.heap.size W1 W0 := k3.trans (HW.out.2.2.2.2.mono k3.size)
  have hlt := HW.out.2.1
  have hws := HW.out.1
  rw [hp] at h7 h8 h9
  have hf1 : Below w.heap.size w W2 := hbW.trans (hf.below (B := w.heap.size) hbW.size (fun k x e => by omega))
  refine ⟨cell_fr hf (old_cell h7 hb1) (by omega), cell_fr hf (old_cell h8 hb1) (by omega), ?_, h3.later hf1, hf1⟩
  rw [hf.froz (p + 1) 0 (by omega) (by omega), hb1.frozen (p := ⟨p + 1, 0, none⟩) (show p + 1 < W1.heap.size by omega)]; exact h9)
 obtain ⟨R, hR1, hR2⟩ := HX.out.1.tells HD.out.1 (by have := HD.out.2.2.1; omega)
 have HRr := Lib.hid (And.intro hR1 hR2)
 have HRu : Hid (∀ k, R k → k < W0.heap.size ∧ k ≠ u ∧ k ≠ p + 1) := Lib.hid (fun k hk => by
  have h1 := HRr.out.1 k hk
  have h2 := HW.out.1
  have h3 := HD.out.2.2.2.2.1
  omega)
 clear hW1 hR1 hR2
 rw [hp, hu, hW0]
 clear hp hu hN hN2 hW0
 refine (wpIn_wide (n := 3)).1 ?_
 refine' wpIn_range_box (by omega) (gf := 80) (lb := #[.pointer (some ⟨Bn, 0, none⟩)]) rfl (enters_any Tryz.func80 (by kernel_rfl) rfl) (encs := rowE) (stops := True) (xs := L)
  (R := R) (K0 := fun _ => False) (fun o1 o2 => HRr.out.2 _ (HW.out.2.2.2.2.trans (((al1 W0 o1).trans ((al1 (W0.alloc o1) o2).mono (by simp))).mono HW.out.2.2.2.2.size))) (fun x => rfl) (fun k hk => (HRu.out k hk).1) (fun k hk => hk.elim)
  (fun K pre W => Boxd (fun l : List Pr => .int .i64 (l.length : Nat)) W0 u K pre W ∧ pre = M.take pre.length) (fun c K pre W => (LeftB (fun k => k = u ∨ k = p + 1) W0 (p + 1) (.bool false) K pre W ∧ L ≠ M) ∧ c = .ret)
  (fun K K' pre W W' h hf hK => ⟨Boxd.clos (by rw [HW.out.1]; omega) K K' pre W W' h.1 hf hK, h.2⟩)
  (fun c K K' pre W W' h hf hK => ⟨⟨LeftB.clos (by have := HW.out; omega) K K' pre W W' h.1.1 hf hK, h.1.2⟩, h.2⟩) (.inl trivial) ⟨Boxd.start HW.out.2.2.1 HW.out.2.2.2.1, rfl⟩
  (fun x => .cells #[.int .i64 (decT x.2).1, .int .i64 (decT x.2).2.1, .int .i64 (decT x.2).2.2.1, .int .i64 (decT x.2).2.2.2] 41) (fun K pre W h k hk => (h.1.2.2.2 k hk).2) _ ?assign ?body ?done ?stop
 case assign =>
  intro l' x W2 K1 hK1
  simp only [rowE, rowW]
  gi_wp2
  obtain ⟨r', hr'⟩ : ∃ r', W2.heap.size = r' := ⟨_, rfl⟩
  rw [hr'] at hK1 ⊢
  exact hK1
 case body =>
  rintro l' r' K pre x post W2 hx _ hI hbox hrK hrR hrS
  have HI := Lib.hid hI
  obtain ⟨⟨h4, h5, h6, h7⟩, hpre⟩ := hI
  obtain ⟨y1, y2, y3, y4, _⟩ := HK.out W2 h6
  have b0 : W2.cell? ⟨r', 0, none⟩ = some (.int .i64 (decT x.2).1) := (cell_of_row W2 r' 0 _ _ _ hbox).trans rfl
  have b1 : W2.cell? ⟨r', 1, none⟩ = some (.int .i64 (decT x.2).2.1) := (cell_of_row W2 r' 1 _ _ _ hbox).trans rfl
  have b2 : W2.cell? ⟨r', 2, none⟩ = some (.int .i64 (decT x.2).2.2.1) := (cell_of_row W2 r' 2 _ _ _ hbox).trans rfl
  have b3 : W2.cell? ⟨r', 3, none⟩ = some (.int .i64 (decT x.2).2.2.2) := (cell_of_row W2 r' 3 _ _ _ hbox).trans rfl
  have z0 := y4.c0
  rw [HN2.out] at z0
  obtain ⟨j, hjj⟩ : ∃ j, pre.length = j := ⟨_, rfl⟩
  have HJ := Lib.hid hjj
  have HXl := Lib.hid hx
  have hj1 : j < N := by rw [← HV.out.2.2.1, ← hjj, hx]; simp
  have HjN := Lib.hid hj1
  have g3 : (0 : Int) ≤ (j : Int) := by omega
  have g5 : (j : Int) ≤ 1024 := by have := HD.out.2.2.1; have := HV.out.2.2.1; omega
  have hxm : x ∈ L := by rw [hx]; simp
  have HXm := Lib.hid hxm
  dsimp only at h4
  rw [hjj] at h4
  have HY2 := Lib.hid (And.intro y2 y3)
  by_cases hlt : j < N2
  case neg =>
   have g1 : (N2 : Int) ≤ (j : Int) := by omega
   have hd : decide ((N2 : Int) ≤ (j : Int)) = true := by simp; omega
   have HNe : Hid (L ≠ M) := Lib.hid (differ hx (by rw [hjj, List.getElem?_eq_none (by rw [HN2.out]; omega)]; simp))
   clear hx hxm h6 h7 hjj hj1 hbox hrK hrR hrS hpre y4
   obtain ⟨xk, xv⟩ := x
   gi_wp2
   refine wpIn_region_still_tail 30 (fun _ => trivial) rfl (fun _ _ _ _ h => calls_round l' h) (by kernel_rfl) (by kernel_rfl) (by kernel_rfl) ?_
   simp only [List.take_succ_cons, List.take_zero, List.drop_succ_cons, List.drop_zero]
   repeat ((with_reducible refine wpStill_step (fun K hK => ?_)); go_simp; (with_reducible refine hK _ ?_); clear hK K)
   with_reducible refine wpStill_nil ?_
   gi_wp2
   have hst := Boxd.left (pre' := pre ++ [(xk, xv)]) (v := .bool false) HI.out.1 (by have := HW.out; omega) HY2.out.1 R (fun k hk => (HRu.out k hk).2.2) ((Below.refl _ W2).drew)
   exact ⟨hst.1, ⟨hst.2, HNe.out⟩, rfl⟩
  obtain ⟨q, hj⟩ : ∃ q, M[j]? = some q := ⟨_, List.getElem?_eq_getElem (by rw [HN2.out]; exact hlt)⟩
  obtain ⟨pb, po, rfl, z1, z2, z3, z4, z5⟩ := y4.row hj
  have HQ := Lib.hid hj
  have g1 : ¬ (N2 : Int) ≤ (j : Int) := by omega
  have hd : decide ((N2 : Int) ≤ (j : Int)) = false := by simp; omega
  have g2 : (j : Int) < (N2 : Int) := by omega
  have q1 := str_neq 9 x.1 q.1
  have HDif : Hid (x ≠ q → L ≠ M) := Lib.hid (fun hne => differ hx (by rw [hjj, hj]; intro e; exact hne (Option.some.inj e).symm))
  have HSame : Hid (x.1 = q.1 → decT x.2 = decT q.2 → x = q) := Lib.hid (fun e1 e2 => same_row HD.out.1 HMk.out.1 hxm (List.mem_of_getElem? hj) e1 e2)
  have HTk : Hid (x = q → pre ++ [x] = M.take (pre ++ [x]).length) := Lib.hid (fun e => snoc_take hpre (by rw [hjj, hj, e]))
  clear hx hj hxm y4 h6 h7 hjj hj1 hbox hrK hrR hrS hpre
  have HDec : Hid (x = q → decT x.2 = decT q.2) := Lib.hid (fun e => by rw [e])
  obtain ⟨xk, xv⟩ := x
  obtain ⟨qk, qv⟩ := q
  obtain ⟨⟨r0, r1, r2, r3⟩, hr4⟩ : ∃ r4, decT xv = r4 := ⟨_, rfl⟩
  obtain ⟨⟨s0, s1, s2, s3⟩, hs4⟩ : ∃ r4, decT qv = r4 := ⟨_, rfl⟩
  simp only [hr4, hs4] at HSame HDec z1 z2 z3 z4 z5 b0 b1 b2 b3 q1 ⊢
  clear hr4 hs4
  by_cases hk : xk = qk
  case neg =>
   rw [show (xk == qk) = false by simpa using hk] at q1
   have HNe : Hid (L ≠ M) := Lib.hid (HDif.out (fun e => hk (by cases e; rfl)))
   clear hk
   gi_wp2
   refine wpIn_region_still_tail 30 (fun _ => trivial) rfl (fun _ _ _ _ h => calls_round l' h) (by kernel_rfl) (by kernel_rfl) (by kernel_rfl) ?_
   simp only [List.take_succ_cons, List.take_zero, List.drop_succ_cons, List.drop_zero]
   repeat ((with_reducible refine wpStill_step (fun K hK => ?_)); go_simp; (with_reducible refine hK _ ?_); clear hK K)
   with_reducible refine wpStill_nil ?_
   gi_wp2
   have hst := Boxd.left (pre' := pre ++ [(xk, xv)]) (v := .bool false) HI.out.1 (by have := HW.out; omega) HY2.out.1 R (fun k hk => (HRu.out k hk).2.2) ((Below.refl _ W2).drew)
   exact ⟨hst.1, ⟨hst.2, HNe.out⟩, rfl⟩
  rw [show (xk == qk) = true by simpa using hk] at q1
  by_cases hr : (r0, r1, r2, r3) = (s0, s1, s2, s3)
  case neg =>
   have q2 := Rw.neqRow r0 r1 r2 r3 s0 s1 s2 s3 false (by
    rw [← Bool.not_eq_true]
    intro h
    simp at h
    obtain ⟨h0, h1, h2, h3⟩ := h
    exact hr (by rw [h0, h1, h2, h3]))
   have HNe : Hid (L ≠ M) := Lib.hid (HDif.out (fun e => hr (HDec.out e)))
   clear hk hr
   gi_wp2
   refine wpIn_region_still_tail 30 (fun _ => trivial) rfl (fun _ _ _ _ h => calls_round l' h) (by kernel_rfl) (by kernel_rfl) (by kernel_rfl) ?_
   simp only [List.take_succ_cons, List.take_zero, List.drop_succ_cons, List.drop_zero]
   repeat ((with_reducible refine wpStill_step (fun K hK => ?_)); go_simp; (with_reducible refine hK _ ?_); clear hK K)
   with_reducible refine wpStill_nil ?_
   gi_wp2
   have hst := Boxd.left (pre' := pre ++ [(xk, xv)]) (v := .bool false) HI.out.1 (by have := HW.out; omega) HY2.out.1 R (fun k hk => (HRu.out k hk).2.2) ((Below.refl _ W2).drew)
   exact ⟨hst.1, ⟨hst.2, HNe.out⟩, rfl⟩
  have HT2 := Lib.hid (HTk.out (HSame.out hk hr))
  obtain ⟨rfl, rfl, rfl, rfl⟩ : r0 = s0 ∧ r1 = s1 ∧ r2 = s2 ∧ r3 = s3 := by cases hr; exact ⟨rfl, rfl, rfl, rfl⟩
  have q2 := Rw.neqRow r0 r1 r2 r3 r0 r1 r2 r3 true (by simp)
  clear hk hr
  gi_wp2
  refine wpIn_region_still_tail 30 (fun _ => trivial) rfl (fun _ _ _ _ h => calls_round l' h) (by kernel_rfl) (by kernel_rfl) (by kernel_rfl) ?_
  simp only [List.take_succ_cons, List.take_zero, List.drop_succ_cons, List.drop_zero]
  repeat ((with_reducible refine wpStill_step (fun K hK => ?_)); go_simp; (with_reducible refine hK _ ?_); clear hK K)
  with_reducible refine wpStill_nil ?_
  gi_wp2
  have hst := Boxd.step (f := fun l : List Pr => Value.int .i64 (l.length : Nat)) (x := (xk, xv)) (by rw [HW.out.1]; omega) HI.out.1 ((Below.refl _ W2).drew) R (fun k hk => (HRu.out k hk).2.1)
  have e1 : (j : Int) + 1 = (((pre ++ [(xk, xv)]).length : Nat) : Int) := by
   have h7 := HJ.out
   simp [h7]
  rw [e1]
  exact ⟨hst.1, hst.2, HT2.out⟩
 case stop =>
  rintro D cd K pre x post W3 hx ⟨⟨hB, hne⟩, rfl⟩ _ hKD hsD hDef
  have HE : Hid (decide (L = M) = false) := Lib.hid (by simpa using hne)
  have H3 := Lib.hid (And.intro hB (And.intro hsD hDef))
  clear hx hB hne hKD hsD hDef
  gi_wp2
  obtain ⟨hB, hsD, hDef⟩ := H3.out
  have hpu := HW.out.2.1
  have hws := HW.out.1
  have hpp := HV.out.1
  refine leave_marks [D] W3 (by simp) (fun E hE => by simp at hE; subst hE; exact hDef) (fun W' hf => ?_)
  have hc : W'.cell? ⟨p + 1, 0, none⟩ = some (.bool false) := cell_fr hf hB.1 (by simp; omega)
  refine ⟨_, results_bool rfl _ W' (p + 1) (.bool false) rfl hc, by rw [HE.out], ?_⟩
  have b3 : Below w.heap.size w W3 := by
   obtain ⟨_, _, _, h5, h6, _⟩ := HD.out
   have hbV : Below w.heap.size w V := h5.trans (HX.out.2.mono h5.size)
   have hbW : Below w.heap.size w W0 := hbV.trans (HW.out.2.2.2.2.mono hbV.size)
   exact hbW.trans (hB.2.1.below hbW.size (fun k x e => by rcases e with rfl | rfl <;> omega))
  exact b3.trans (hf.below (B := w.heap.size) b3.size (fun k x e => by simp at e; subst e; omega))
 case done =>
  rintro D K W3 ⟨⟨h4, h5, h6, h7⟩, hpre⟩ _ hKD hsD hDef
  obtain ⟨y1, y2, y3, y4, y5⟩ := HK.out W3 h6
  have z0 := y4.c0
  rw [HN2.out] at z0
  simp only [HV.out.2.2.1] at h4
  have HL : Hid (Calls Tryz.prog 26 #[ptrV tb] W3.drew fun e V2 => e = .returned (.int .i64 (N : Nat)) ∧ V2 = W3.drew) := Lib.hid (by
   have := HLen.out W3.drew (y5.trans ((below_drewN W3 1).mono y5.size))
   rw [HV.out.2.2.1] at this
   exact this.mono (fun e V h => ⟨h.1, h.2.symm⟩))
  have H3 := Lib.hid (And.intro h6 (And.intro h7 (And.intro hKD (And.intro hsD (And.intro hDef y5)))))
  have hd : decide ((N : Int) = (N : Int)) = true := by simp
  by_cases hh : N = N2
  case neg =>
   have HE : Hid (decide (L = M) = false) := Lib.hid (decide_eq_false (fun e => hh (by have e1 := HV.out.2.2.1; have e2 := HN2.out; rw [← e1, ← e2, e])))
   have hd2 : decide ((N : Int) = (N2 : Int)) = false := decide_eq_false (by omega)
   have hd3 : decide (N = N2) = false := decide_eq_false hh
   have hd4 : ((N : Int) == (N2 : Int)) = false := by simp; omega
   have hd5 : ¬ (N : Int) = (N2 : Int) := by omega
   clear hpre
   clear h6 h7 hKD hsD hDef y4 y5
   gi_wp2
   go_wp2
   refine wp_only ?_
   refine wp_region_still_tail 13 (by kernel_rfl) (by kernel_rfl) ?_
   simp only [List.take_succ_cons, List.take_zero, List.drop_succ_cons, List.drop_zero]
   repeat ((with_reducible refine wpStill_step (fun K hK => ?_)); go_simp; (with_reducible refine hK _ ?_); clear hK K)
   with_reducible refine wpStill_nil ?_
   go_wp2
   simp only [onlyK]
   go_wp2
   obtain ⟨h6, h7, hKD, hsD, hDef, y5⟩ := H3.out
   have hws := HW.out.1
   have hpu := HW.out.2.1
   have hne : D ≠ p + 1 := by omega
   have hpp := HV.out.1
   refine leave_marks [D] _ (by simp) (fun E hE => ?_) (fun W' hf => ?_)
   ·simp at hE; subst hE
    exact (Below.heap_setCell W3 ⟨p + 1, 0, none⟩ (.bool false) E hne).trans hDef
   ·have hc : W'.cell? ⟨p + 1, 0, none⟩ = some (.bool false) := cell_fr hf (show (W3.setCell ⟨p + 1, 0, none⟩ (.bool false)).cell? ⟨p + 1, 0, none⟩ = some (.bool false) from World.cell?_setCell_same' _ _ _ (by rw [y2]; rfl)) (by simp; omega)
    have b4 : Below w.heap.size w (W3.setCell ⟨p + 1, 0, none⟩ (.bool false)).drew := (y5.setCell (p := ⟨p + 1, 0, none⟩) (by show w.heap.size ≤ p + 1; omega) _).drew
    exact ⟨_, results_bool rfl _ W' (p + 1) (.bool false) rfl hc, by rw [HE.out], b4.trans (hf.below (B := w.heap.size) b4.size (fun k x e => by simp at e; subst e; omega))⟩
  have HE : Hid (decide (L = M) = true) := Lib.hid (decide_eq_true (by have e1 := HV.out.2.2.1; have e2 := HN2.out; rw [hpre, List.take_of_length_le (by omega)]))
  clear hpre
  obtain rfl : N = N2 := hh
  clear h6 h7 hKD hsD hDef y4 y5
  gi_wp2
  go_wp2
  refine wp_only ?_
  refine wp_region_still_tail 13 (by kernel_rfl) (by kernel_rfl) ?_
  simp only [List.take_succ_cons, List.take_zero, List.drop_succ_cons, List.drop_zero]
  iterate 9 ((with_reducible refine wpStill_step (fun K hK => ?_)); go_simp; (with_reducible refine hK _ ?_); clear hK K)
  (with_reducible refine wpStill_step (fun K hK => ?_))
  go_simp
  refine ⟨_, HL.out, hK _ ?_⟩
  clear hK K
  iterate 3 ((with_reducible refine wpStill_step (fun K hK => ?_)); go_simp; (with_reducible refine hK _ ?_); clear hK K)
  with_reducible refine wpStill_nil ?_
  go_wp2
  simp only [onlyK]
  go_wp2
  obtain ⟨h6, h7, hKD, hsD, hDef, y5⟩ := H3.out
  have hws := HW.out.1
  have hpu := HW.out.2.1
  have hne : D ≠ p + 1 := by omega
  have hpp := HV.out.1
  refine leave_marks [D] _ (by simp) (fun E hE => ?_) (fun W' hf => ?_)
  ·simp at hE; subst hE
   exact (Below.heap_setCell W3 ⟨p + 1, 0, none⟩ (.bool true) E hne).trans hDef
  ·have hc : W'.cell? ⟨p + 1, 0, none⟩ = some (.bool true) := cell_fr hf (show (W3.setCell ⟨p + 1, 0, none⟩ (.bool true)).cell? ⟨p + 1, 0, none⟩ = some (.bool true) from World.cell?_setCell_same' _ _ _ (by rw [y2]; rfl)) (by simp; omega)
   have b4 : Below w.heap.size w (W3.setCell ⟨p + 1, 0, none⟩ (.bool true)).drew := (y5.setCell (p := ⟨p + 1, 0, none⟩) (by show w.heap.size ≤ p + 1; omega) _).drew
   exact ⟨_, results_bool rfl _ W' (p + 1) (.bool true) rfl hc, by rw [HE.out], b4.trans (hf.below (B := w.heap.size) b4.size (fun k x e => by simp at e; subst e; omega))⟩
end
end Tb
end Go.Proofs.YtecnijnmgdfdhaaGreat

namespace Go.Proofs.YtecnijnmgdfdhaaGreat
namespace Tb
open Go.RowKit Tr
open Ky (less)
section
variable {B : Nat} {w0 w V : World} {X Y : List Rs} {tb r most m2 o : Nat} {L M : List Pr}
set_option maxHeartbeats 8000000 in
set_option maxRecDepth 100000 in
theorem own_docCopy (hn : L.length ≤ 100000) (h : Own B w0 (DocR r most L :: X) w) :
  Calls Tryz.prog 36 #[ptrV r] w fun e V => ∃ rc, e = .returned (ptrV rc) ∧ Own B w0 (DocR rc most L :: DocR r most L :: X) V := by
 obtain ⟨a, c, hA⟩ := own_docOpen h
 obtain ⟨F, ht⟩ := own_docM hA (List.mem_cons_self ..)
 obtain ⟨N, hN⟩ : ∃ N, L.length = N := ⟨_, rfl⟩
 have c0 := ht.c0
 have c1 := ht.c1
 rw [hN] at c0
 have HD := Lib.hid (own_docNew h most 47)
 have hb := al1 w (.cells #[.slice none 0 0, .int .i64 most] 47)
 obtain ⟨W, hW⟩ : ∃ W, w.alloc (.cells #[.slice none 0 0, .int .i64 most] 47) = W := ⟨_, rfl⟩
 obtain ⟨rc, hrc⟩ : ∃ x, w.heap.size = x := ⟨_, rfl⟩
 rw [hW] at HD hb
 rw [hrc] at HD
 have z0 : W.cell? ⟨rc, 0, none⟩ = some (.slice none 0 0) := by rw [← hW, ← hrc]; simp
 have z1 : W.cell? ⟨r, 0, none⟩ = some (.slice a N c) := old_cell c0 hb
 have hrd : Rd W 5 a N c (rowsV L) := by have := (ht.later hb).sl.rd; rwa [hN] at this
 obtain ⟨i0, hi, hz0, hz1, hz2⟩ := info_parts infoRow
 obtain ⟨a', c', V, F', hrun, k1, k2, k3, k4⟩ := run_app_sl (w := W.drew) 45 45 98 i0 _ 5 48 Tryz.underlying45 hi hz0 hz1 hz2 rfl (by decide) none 0 0 [] (Sl.none_ W.drew 5) (fun _ _ h => h.elim) a N c (rowsV L) (hrd.later (below_drewN W 1)) (by unfold maxLen; omega) (by omega)
 rw [Nat.zero_add] at hrun k1
 rw [List.nil_append] at k1
 have hbV : Below W.heap.size W V := (below_drewN W 1).trans (k2.below (B := W.heap.size) (Nat.le_refl _) (fun _ _ h => h.elim))
 have HV : Hid (Own B w0 (SlR 5 a' N c' (rowsV L) :: DocR rc most [] :: DocR r most L :: X) V) := Lib.hid (HD.out.add hbV (F := F') ⟨k1, k4⟩ (fun b o hf => (k3 b o hf).resolve_left (fun h => h)))
 have v0 : V.cell? ⟨rc, 0, none⟩ = some (.slice none 0 0) := old_cell z0 hbV
 have v1 : V.cell? ⟨r, 0, none⟩ = some (.slice a N c) := old_cell z1 hbV
 obtain ⟨fa, fc, hA2⟩ := own_docOpen HV.out.swap
 have hA3 : DocA rc most fa fc [] ∈ DocA rc most fa fc [] :: SlR 5 a' N c' (rowsV L) :: DocR r most L :: X := List.mem_cons_self ..
 obtain ⟨_, ht2⟩ := own_docM hA2 hA3
 have f0 := ht2.f0
 have HSet := Lib.hid (own_docSet (L' := L) hA2.swap hN)
 have HRun := Lib.hid hrun
 clear h hA ht hN hb hrd hrun k1 k2 k3 k4 hbV hA2 hA3 ht2 HD HV hi hz0 hz1 hz2
 go_enter Tryz.func36, Tryz.ntmps36
 go_wp2
 try simp only [hrc, hW]
 refine wp_region_till 12 (fun V => V.cell? ⟨rc, 0, none⟩ = some (.slice none 0 0) ∧ V.cell? ⟨r, 0, none⟩ = some (.slice a N c)) (by kernel_rfl) (And.intro z0 z1) (fun hH => ?_)
 refine zzU (i := 0) (v := ?v0) rfl (by kernel_rfl) (fun _ _ _ h => h) rfl ?h0 hH ?r0
 case h0 => (intro W h; (try dsimp only at h); go_simp; all_goals (with_reducible rfl))
 try simp only [zzA, zzB, zzC, Act.put, zzD, zzE, zzF]
 refine zzU (i := 1) (v := ?v1) rfl (by kernel_rfl) (fun _ _ _ h => h) rfl ?h1 hH ?r1
 case h1 => (intro W h; (try dsimp only at h); go_simp; all_goals (with_reducible rfl))
 try simp only [zzA, zzB, zzC, Act.put, zzD, zzE, zzF]
 refine zzU (i := 2) (v := ?v2) rfl (by kernel_rfl) (fun _ _ _ h => h) rfl ?h2 hH ?r2
 case h2 => (intro W h; (try dsimp only at h); go_simp; all_goals (with_reducible rfl))
 try simp only [zzA, zzB, zzC, Act.put, zzD, zzE, zzF]
 refine zzU (i := 3) (v := ?v3) rfl (by kernel_rfl) (fun _ _ _ h => h) rfl ?h3 hH ?r3
 case h3 => (intro W h; (try dsimp only at h); go_simp; all_goals (with_reducible rfl))
 try simp only [zzA, zzB, zzC, Act.put, zzD, zzE, zzF]
 refine zzU (i := 4) (v := ?v4) rfl (by kernel_rfl) (fun _ _ _ h => h) rfl ?h4 hH ?r4
 case h4 => (intro W h; (try dsimp only at h); go_simp; all_goals (with_reducible rfl))
 try simp only [zzA, zzB, zzC, Act.put, zzD, zzE, zzF]
 refine zzU (i := 5) (v := ?v5) rfl (by kernel_rfl) (fun _ _ _ h => h) rfl ?h5 hH ?r5
 case h5 => (intro W h; (try dsimp only at h); go_simp; all_goals (with_reducible rfl))
 try simp only [zzA, zzB, zzC, Act.put, zzD, zzE, zzF]
 refine zzU (i := 6) (v := ?v6) rfl (by kernel_rfl) (fun _ _ _ h => h) rfl ?h6 hH ?r6
 case h6 => (intro W h; (try dsimp only at h); go_simp; all_goals (with_reducible rfl))
 try simp only [zzA, zzB, zzC, Act.put, zzD, zzE, zzF]
 refine zzU (i := 7) (v := ?v7) rfl (by kernel_rfl) (fun _ _ _ h => h) rfl ?h7 hH ?r7
 case h7 => (intro W h; (try dsimp only at h); go_simp; all_goals (with_reducible rfl))
 try simp only [zzA, zzB, zzC, Act.put, zzD, zzE, zzF]
 refine zzU (i := 8) (v := ?v8) rfl (by kernel_rfl) (fun _ _ _ h => h) rfl ?h8 hH ?r8
 case h8 => (intro W h; (try dsimp only at h); go_simp; all_goals (with_reducible rfl))
 try simp only [zzA, zzB, zzC, Act.put, zzD, zzE, zzF]
 refine wpTill_one (i := 9) (by kernel_rfl) rfl rfl (fun K hK => ?_)
 refine wp_appR _ _ 45 45 (by rfl) _ _ (by rfl) (by rfl) HRun.out ?_
 have hH2 := And.intro v0 v1
 refine hK.out _ _ (fun _ => hH2) ?_
 clear hK K hH; have hH := hH2; clear hH2
 try simp only [zzA, zzB, zzC, Act.put, zzD, zzE, zzF]
 refine wpTill_one (i := 10) (by kernel_rfl) rfl rfl (fun K hK => ?_)
 go_simp
 refine hK.out _ _ (fun _ => hH) ?_
 clear hK K
 try simp only [zzA, zzB, zzC, Act.put, zzD, zzE, zzF]
 refine wpTill_one (i := 11) (by kernel_rfl) rfl rfl (fun K hK => ?_)
 go_simp
 refine hK.out _ _ (fun _ => hH) ?_
 clear hK K
 try simp only [zzA, zzB, zzC, Act.put, zzD, zzE, zzF]
 refine wpTill_one (i := 12) (by kernel_rfl) rfl rfl (fun K hK => ?_)
 go_simp
 refine hK.out _ _ (fun h => absurd rfl h) ?_
 clear hK K
 try simp only [zzA, zzB, zzC, Act.put, zzD, zzE, zzF]
 refine wpTill_done (by kernel_rfl) ?_ _
 go_wp2
 go_ret
 exact ⟨rc, rfl, HSet.out⟩
end
end Tb
end Go.Proofs.YtecnijnmgdfdhaaGreat
