/- Joined: Tree12. -/
import Derived.Test.YtecnijnmgdfdhaaGreatYTreeC
namespace Go.Proofs.YtecnijnmgdfdhaaGreat
open Go.RowKit Tr
set_option maxHeartbeats 8000000 in
set_option maxRecDepth 100000 in
theorem fromLeft_leaf (h : Nat) (g l r : G) (A B : List G) (C D X : List Pr) (m z : Pr) (i : Nat) (hi : i = C.length + 1) (hps : g.ps = C ++ m :: D) (hks : g.ks = A ++ l :: r :: B) (ha : A.length = C.length) (hlp : l.ps = X ++ [z]) (hlk : l.ks = []) (hrk : r.ks = [])
  (b1 : g.ps.length ≤ 1000) (b2 : g.ks.length ≤ 1000) (b3 : l.ps.length ≤ 1000) (b4 : r.ps.length ≤ 1000) (_b5 : l.ks.length ≤ 1000) (_b6 : r.ks.length ≤ 1000) (w : World) (hn : Nd w (h + 1) g) :
  Calls Tryz.prog 160 #[ptrV g.b, .int .i64 i] w (TwoTo w h g (C ++ z :: D) A B X [] (m :: r.ps) []) := by
 obtain ⟨la, lc, lka, lkc, ra, rc, rka, rkc, ga, gc, gka, gkc, hS⟩ := Sx.ofSt (St.kid2 hn hks)
 have htl := hS.top ⟨l, la, lc, lka, lkc⟩ (by simp)
 have htr := hS.top ⟨r, ra, rc, rka, rkc⟩ (by simp)
 have htg := hS.top ⟨g, ga, gc, gka, gkc⟩ (by simp)
 have hmm : g.ps[C.length]? = some m := by rw [hps]; simp
 have hzz : l.ps[X.length]? = some z := by rw [hlp]; simp
 have hkl : g.ks[C.length]? = some l := by rw [hks, ← ha]; simp
 have hkr : g.ks[C.length + 1]? = some r := by rw [hks, ← ha, show A ++ l :: r :: B = (A ++ [l]) ++ r :: B by simp, show A.length + 1 = (A ++ [l]).length by simp]; simp
 obtain ⟨gpb, gpo, rfl, _⟩ := Top.pair (g := g) htg hmm
 obtain ⟨lpb, lpo, rfl, _⟩ := Top.pair (g := l) htl hzz
 obtain ⟨gkb, gko, rfl, _⟩ := Top.kid (g := g) htg hkl
 have hnl : l.ps.length = X.length + 1 := by rw [hlp]; simp
 have hnr : l.b ≠ r.b := hS.ne (t := ⟨l, some ⟨lpb, lpo, none⟩, lc, lka, lkc⟩) (t' := ⟨r, ra, rc, rka, rkc⟩) (by simp)
 have hlg : l.b ≠ g.b := hS.ne (t := ⟨l, some ⟨lpb, lpo, none⟩, lc, lka, lkc⟩) (t' := ⟨g, some ⟨gpb, gpo, none⟩, gc, some ⟨gkb, gko, none⟩, gkc⟩) (by simp)
 have c0 := htl.c0
 have d0 := htg.c0
 have d1 := htg.c1
 have e0 := (Top.kidAt (g := g) htg hkl).1
 have e1 := (Top.kidAt (g := g) htg hkr).1
 simp only at c0 d0 d1
 have hgn : g.ks.length = A.length + 2 + B.length := by rw [hks]; simp; omega
 have hpn : g.ps.length = C.length + 1 + D.length := by rw [hps]; simp; omega
 have HLK := Lib.hid hlk
 have HRK := Lib.hid hrk
 rw [show C.length = i - 1 by omega] at hmm e0
 rw [show C.length + 1 = i by omega] at e1
 have HS := Lib.hid hS
 have HMM := Lib.hid hmm
 have HQ := Lib.hid (And.intro hps (And.intro hks (And.intro ha (And.intro hlp hzz))))
 obtain ⟨ng, hng⟩ : ∃ n, g.ps.length = n := ⟨_, rfl⟩
 obtain ⟨nk, hnk⟩ : ∃ n, g.ks.length = n := ⟨_, rfl⟩
 obtain ⟨nl, hnl2⟩ : ∃ n, l.ps.length = n := ⟨_, rfl⟩
 obtain ⟨nr, hnr2⟩ : ∃ n, r.ps.length = n := ⟨_, rfl⟩
 have hXl : X.length = nl - 1 := by omega
 have HLN := Lib.hid (And.intro hng (And.intro hnk (And.intro hnl2 (And.intro hnr2 (And.intro hXl (And.intro hi (And.intro hnr (And.intro hpn hgn))))))))
 rw [hng] at d0 b1 hpn
 rw [hnk] at d1 b2 hgn
 rw [hnl2] at c0 b3 hnl
 rw [hnr2] at b4
 have hi0 : (0 : Int) ≤ (i : Int) := by omega
 have hi1 : (1 : Int) ≤ (i : Int) := by omega
 have hi2 : (i : Int) < (nk : Int) := by omega
 have hi3 : (i : Int) ≤ (ng : Int) := by omega
 have hi4 : (i : Int) - 1 < (nk : Int) := by omega
 have hi5 : (0 : Int) ≤ (i : Int) - 1 := by omega
 have hi6 : (i : Int) - 1 < (ng : Int) := by omega
 have hl0 : (1 : Int) ≤ (nl : Int) := by omega
 have hl1 : (nl : Int) ≤ 1000 := by omega
 have hk1 : (nk : Int) ≤ 1000 := by omega
 have hg1 : (ng : Int) ≤ 1000 := by omega
 have hr1 : (nr : Int) ≤ 1000 := by omega
 clear hn hS htl htr htg hmm hzz hkl hkr hps hks ha hlp hng hnk hnl2 hnr2 hXl hnl hi hpn hgn hlk hrk
 go_enter Tryz.func160, Tryz.ntmps160
 go_wp2
 go_quiet (fail)
 go_wp2
 obtain ⟨W1, hW1⟩ : ∃ W1, W1 = w.drewN nq := ⟨_, rfl⟩
 rw [← hW1]
 have HS1 : Hid (Sx w (foot (h + 1) g) W1 [⟨l, some ⟨lpb, lpo, none⟩, lc, lka, lkc⟩, ⟨r, ra, rc, rka, rkc⟩, ⟨g, some ⟨gpb, gpo, none⟩, gc, some ⟨gkb, gko, none⟩, gkc⟩] (subsOf h (l.ks ++ r.ks) ++ (A ++ B).map fun k => (h, k))) := Lib.hid (by rw [hW1]; exact HS.out.later (below_drewN w nq))
 clear hW1
 have HI2 := Lib.hid (Sx.insP (t := ⟨r, ra, rc, rka, rkc⟩) (T := [⟨l, some ⟨lpb, lpo, none⟩, lc, lka, lkc⟩, ⟨g, some ⟨gpb, gpo, none⟩, gc, some ⟨gkb, gko, none⟩, gkc⟩]) (C := []) (D := r.ps) (x := m) (i := 0) (n := nr) (vb := W1.heap.size) (E := (W1.alloc (.cells #[.string ⟨m.1.toArray⟩, .string ⟨m.2.toArray⟩] 168)).drew) (HS1.out.perm (List.Perm.swap _ _ _) (List.Perm.refl _)) rfl rfl HLN.out.2.2.2.1 (by omega) (alE W1 (.cells #[.string ⟨m.1.toArray⟩, .string ⟨m.2.toArray⟩] 168)) ((Arg.made W1 [.string ⟨m.1.toArray⟩, .string ⟨m.2.toArray⟩] 168 (by intro u hu; simp only [List.mem_cons, List.not_mem_nil, or_false] at hu; rcases hu with rfl | rfl <;> rfl)).block rfl) (Nat.le_refl _) 0 rfl)
 have x0 := (HS1.out.top ⟨g, some ⟨gpb, gpo, none⟩, gc, some ⟨gkb, gko, none⟩, gkc⟩ (by simp)).c0
 have x1 := (HS1.out.top ⟨r, ra, rc, rka, rkc⟩ (by simp)).c0
 have x2 := (Top.pairAt (g := g) (HS1.out.top ⟨g, some ⟨gpb, gpo, none⟩, gc, some ⟨gkb, gko, none⟩, gkc⟩ (by simp)) HMM.out).1
 simp only [HLN.out.1, HLN.out.2.2.2.1] at x0 x1
 have hw2 : ((i : Int) - 1).toNat = i - 1 := by omega
 have hw1 : IntKind.i64.wrap ((i : Int) - 1) = (i : Int) - 1 := by rw [IntKind.wrap_i64]; omega
 refine wp_region_till 17 (fun V => (V.cell? ⟨gpb, gpo + (i - 1) * 2, none⟩ = some (.string ⟨m.1.toArray⟩) ∧ V.cell? ⟨gpb, gpo + (i - 1) * 2 + 1, none⟩ = some (.string ⟨m.2.toArray⟩)) ∧ V.cell? ⟨g.b, 0, none⟩ = some (.slice (some ⟨gpb, gpo, none⟩) ng gc) ∧ V.cell? ⟨r.b, 0, none⟩ = some (.slice ra nr rc)) (by kernel_rfl) (⟨x2, x0, x1⟩) (fun hH => ?_)
 refine zzU (i := 0) (v := ?v0) rfl (by kernel_rfl) (fun _ _ _ h => h) rfl ?h0 hH ?r0
 case h0 => (intro W h; (try dsimp only at h); go_simp; all_goals (with_reducible rfl))
 try simp only [zzA, zzC, Act.put, zzD, zzE, zzF]
 refine zzU (i := 1) (v := ?v1) rfl (by kernel_rfl) (fun _ _ _ h => h) rfl ?h1 hH ?r1
 case h1 => (intro W h; (try dsimp only at h); go_simp; all_goals (with_reducible rfl))
 try simp only [zzA, zzB, zzC, Act.put, zzD, zzE, zzF]
 refine zzU (i := 2) (v := ?v2) rfl (by kernel_rfl) (fun _ _ _ h => h) rfl ?h2 hH ?r2
 case h2 => (intro W h; (try dsimp only at h); go_simp; all_goals (with_reducible rfl))
 try simp only [zzA, zzB, zzC, Act.put, zzD, zzE, zzF]
 refine zzU (i := 3) (v := ?v3) rfl (by kernel_rfl) (fun _ _ _ h => h) rfl ?h3 hH ?r3
 case h3 => (intro W h; (try dsimp only at h); go_simp; all_goals (with_reducible rfl))
 try simp only [zzA, zzB, zzC, Act.put, zzD, zzE, zzF]
 refine zzU (i := 4) (v := ?v4) rfl (by kernel_rfl) (fun _ _ _ h => h) rfl ?h4 hH ?r4
 case h4 => (intro W h; (try dsimp only at h); go_simp; all_goals (with_reducible rfl))
 try simp only [zzA, zzB, zzC, Act.put, zzD, zzE, zzF]
 refine zzU (i := 5) (v := ?v5) rfl (by kernel_rfl) (fun _ _ _ h => h) rfl ?h5 hH ?r5
 case h5 => (intro W h; (try dsimp only at h); go_simp; all_goals (with_reducible rfl))
 try simp only [zzA, zzB, zzC, Act.put, zzD, zzE, zzF]
 refine zzU (i := 6) (v := ?v6) rfl (by kernel_rfl) (fun _ _ _ h => h) rfl ?h6 hH ?r6
 case h6 => (intro W h; (try dsimp only at h); go_simp; all_goals (with_reducible rfl))
 try simp only [zzA, zzB, zzC, Act.put, zzD, zzE, zzF]
 refine zzU (i := 7) (v := ?v7) rfl (by kernel_rfl) (fun _ _ _ h => h) rfl ?h7 hH ?r7
 case h7 => (intro W h; (try dsimp only at h); go_simp; all_goals (with_reducible rfl))
 try simp only [zzA, zzB, zzC, Act.put, zzD, zzE, zzF]
 refine zzU (i := 8) (v := ?v8) rfl (by kernel_rfl) (fun _ _ _ h => h) rfl ?h8 hH ?r8
 case h8 => (intro W h; (try dsimp only at h); go_simp; all_goals (with_reducible rfl))
 try simp only [zzA, zzB, zzC, Act.put, zzD, zzE, zzF]
 refine zzU (i := 9) (v := ?v9) rfl (by kernel_rfl) (fun _ _ _ h => h) rfl ?h9 hH ?r9
 case h9 => (intro W h; (try dsimp only at h); go_simp; all_goals (with_reducible rfl))
 try simp only [zzA, zzB, zzC, Act.put, zzD, zzE, zzF]
 refine zzU (i := 10) (v := ?v10) rfl (by kernel_rfl) (fun _ _ _ h => h) rfl ?h10 hH ?r10
 case h10 => (intro W h; (try dsimp only at h); go_simp; all_goals (with_reducible rfl))
 try simp only [zzA, zzB, zzC, Act.put, zzD, zzE, zzF]
 refine zzU (i := 11) (v := ?v11) rfl (by kernel_rfl) (fun _ _ _ h => h) rfl ?h11 hH ?r11
 case h11 => (intro W h; (try dsimp only at h); go_simp; all_goals (with_reducible rfl))
 try simp only [zzA, zzB, zzC, Act.put, zzD, zzE, zzF]
 refine zzU (i := 12) (v := ?v12) rfl (by kernel_rfl) (fun _ _ _ h => h) rfl ?h12 hH ?r12
 case h12 => (intro W h; (try dsimp only at h); go_simp; all_goals (with_reducible rfl))
 try simp only [zzA, zzB, zzC, Act.put, zzD, zzE, zzF]
 refine wpTill_one (i := 13) (by kernel_rfl) rfl rfl (fun K hK => ?_)
 go_simp
 have hH2 := And.intro (And.intro (old_cell hH.1.1 (alD W1 (.cells #[.string ⟨m.1.toArray⟩, .string ⟨m.2.toArray⟩] 168))) (old_cell hH.1.2 (alD W1 (.cells #[.string ⟨m.1.toArray⟩, .string ⟨m.2.toArray⟩] 168)))) (And.intro (old_cell hH.2.1 (alD W1 (.cells #[.string ⟨m.1.toArray⟩, .string ⟨m.2.toArray⟩] 168))) (old_cell hH.2.2 (alD W1 (.cells #[.string ⟨m.1.toArray⟩, .string ⟨m.2.toArray⟩] 168))))
 refine hK.out _ _ (fun _ => hH2) ?_
 clear hK K hH; have hH := hH2; clear hH2
 try simp only [zzA, zzB, zzC, Act.put, zzD, zzE, zzF]
 refine wpTill_one (i := 14) (by kernel_rfl) rfl rfl (fun K hK => ?_)
 go_simp
 (go_at_call 126; refine HI2.out.mono ?_; rintro e V ⟨a2, c2, F2, rfl, ⟨v0, v1⟩, HV, _, HS2⟩; have v2 := ((HV.out _ (List.mem_cons_of_mem _ (List.mem_cons_self ..))).pairAt HMM.out).1; have v3 := (HV.out _ (List.mem_cons_of_mem _ (List.mem_cons_self ..))).c0; simp only [HLN.out.1] at v3)
 have hH2 := And.intro v2 (And.intro v3 v0)
 refine hK.out _ _ (fun _ => hH2) ?_
 clear hK K hH; have hH := hH2; clear hH2
 try simp only [zzA, zzB, zzC, Act.put, zzD, zzE, zzF]
 refine wpTill_one (i := 15) (by kernel_rfl) rfl rfl (fun K hK => ?_)
 go_simp
 refine hK.out _ _ (fun _ => hH) ?_
 clear hK K
 try simp only [zzA, zzB, zzC, Act.put, zzD, zzE, zzF]
 refine wpTill_one (i := 16) (by kernel_rfl) rfl rfl (fun K hK => ?_)
 go_simp
 refine hK.out _ _ (fun _ => hH) ?_
 clear hK K
 try simp only [zzA, zzB, zzC, Act.put, zzD, zzE, zzF]
 refine wpTill_one (i := 17) (by kernel_rfl) rfl rfl (fun K hK => ?_)
 go_simp
 refine hK.out _ _ (fun h => absurd rfl h) ?_
 clear hK K
 try simp only [zzA, zzB, zzC, Act.put, zzD, zzE, zzF]
 refine wpTill_done (by kernel_rfl) ?_ _
 clear v0 v1 v2 v3 hH HI2 x0 x1 x2 HV hw1 hw2
 generalize V.setCell ⟨r.b, 0, none⟩ (.slice a2 (nr + 1) c2) = W2 at *
 have HSB := Lib.hid (HS2.out.perm (T' := [⟨g, some ⟨gpb, gpo, none⟩, gc, some ⟨gkb, gko, none⟩, gkc⟩, ⟨.mk r.b F2 r.Fk ([] ++ m :: r.ps) r.ks, a2, c2, rka, rkc⟩, ⟨l, some ⟨lpb, lpo, none⟩, lc, lka, lkc⟩]) (by simpa using (List.perm_append_comm (l₁ := [_, _]) (l₂ := [_]))) (List.Perm.refl _))
 have x0 := HSB.out.hd.c0
 have x1 := (HSB.out.top ⟨l, some ⟨lpb, lpo, none⟩, lc, lka, lkc⟩ (by simp)).c0
 have x2 := (Top.pairAt (g := l) (HSB.out.top ⟨l, some ⟨lpb, lpo, none⟩, lc, lka, lkc⟩ (by simp)) HQ.out.2.2.2.2).1
 have x3 := (Top.pairAt (g := g) HSB.out.hd HMM.out).1
 have x4 := (Top.pairAt (g := g) HSB.out.hd HMM.out).2.1
 rw [HLN.out.2.2.2.2.1] at x2
 simp only [HLN.out.1, HLN.out.2.2.1] at x0 x1
 have HP3 := Lib.hid (Sx.setPair (z := z) (i := i - 1) HSB.out HQ.out.1 (by have := HLN.out.2.2.2.2.2.1; omega))
 have q0 := HP3.out.2.1
 have q1 := (HP3.out.1 ⟨l, some ⟨lpb, lpo, none⟩, lc, lka, lkc⟩ (by simp)).c0
 have q2 := (Top.pairAt (g := l) (HP3.out.1 ⟨l, some ⟨lpb, lpo, none⟩, lc, lka, lkc⟩ (by simp)) HQ.out.2.2.2.2).1
 rw [HLN.out.2.2.2.2.1] at q2
 simp only [HLN.out.1, HLN.out.2.2.1] at q0 q1
 obtain ⟨x30, x31⟩ := x3
 have hw4 : ((nl : Int) - 1).toNat = nl - 1 := by omega
 have hw2 : ((i : Int) - 1).toNat = i - 1 := by omega
 have hl5 : (0 : Int) ≤ (nl : Int) - 1 := by omega
 have hl6 : (nl : Int) - 1 < (nl : Int) := by omega
 have hw1 : IntKind.i64.wrap ((i : Int) - 1) = (i : Int) - 1 := by rw [IntKind.wrap_i64]; omega
 obtain ⟨x40, x41⟩ := x4
 go_wp2
 go_region_held3 (fun V => ((V.cell? ⟨lpb, lpo + (nl - 1) * 2, none⟩ = some (.string ⟨z.1.toArray⟩) ∧ V.cell? ⟨lpb, lpo + (nl - 1) * 2 + 1, none⟩ = some (.string ⟨z.2.toArray⟩)) ∧ V.cell? ⟨g.b, 0, none⟩ = some (.slice (some ⟨gpb, gpo, none⟩) ng gc)) ∧ V.cell? ⟨l.b, 0, none⟩ = some (.slice (some ⟨lpb, lpo, none⟩) nl lc)) (first | exact ⟨⟨x2, x0⟩, x1⟩ | exact ⟨⟨q2, q0⟩, q1⟩) (fail)
 rename_i hHeld
 clear hHeld q0 q1 q2 x0 x1 x2 x30 x31 x40 x41 hw1 hw2 hw4
 have HS3 := Lib.hid (HP3.out.2.2.later (Below.refl _ _).drew)
 generalize ((W2.setCell ⟨gpb, gpo + (i - 1) * 2, none⟩ (.string ⟨z.1.toArray⟩)).setCell ⟨gpb, gpo + (i - 1) * 2 + 1, none⟩ (.string ⟨z.2.toArray⟩)).drew = W3 at *
 clear HP3
 have HSC := Lib.hid (HS3.out.perm (T' := [⟨l, some ⟨lpb, lpo, none⟩, lc, lka, lkc⟩, ⟨.mk g.b g.Fp g.Fk (C ++ z :: D) g.ks, some ⟨gpb, gpo, none⟩, gc, some ⟨gkb, gko, none⟩, gkc⟩, ⟨.mk r.b F2 r.Fk ([] ++ m :: r.ps) r.ks, a2, c2, rka, rkc⟩]) (by simpa using (List.perm_append_comm (l₁ := [_, _]) (l₂ := [_]))) (List.Perm.refl _))
 have HD4 := Lib.hid (fun zz yy hz hy => Sx.delP (t := ⟨l, some ⟨lpb, lpo, none⟩, lc, lka, lkc⟩) HSC.out (C := X) (D := []) (x := z) (i := nl - 1) (n := nl) HQ.out.2.2.2.1 HLN.out.2.2.2.2.1 HLN.out.2.2.1 (by omega) zz yy hz hy)
 have x1 := HSC.out.hd.c0
 simp only [HLN.out.2.2.1] at x1
 have HLF := Lib.hid (fun W hc => leaf_raw l.b lka l.ks.length lkc true (by rw [HLK.out]; rfl) (by rw [HLK.out]; simp) W hc)
 go_wp2_with (first
  | (go_at_call 132; refine (HD4.out _ _ (by omega) (by omega)).mono ?_; rintro e V4 ⟨rfl, ⟨v0, v1⟩, _, _, HS4⟩)
  | (go_at_call 100; generalize V4.setCell ⟨l.b, 0, none⟩ (.slice (some ⟨lpb, lpo, none⟩) (nl - 1) lc) = W4 at *; refine (HLF.out _ HS4.out.hd.c1).mono ?_; rintro e W5 ⟨rfl, rfl⟩))
 go_end0
 refine ⟨rfl, ?_⟩
 have hs5 : Sx w (foot (h + 1) g) W4 [⟨.mk g.b g.Fp g.Fk (C ++ z :: D) g.ks, some ⟨gpb, gpo, none⟩, gc, some ⟨gkb, gko, none⟩, gkc⟩, ⟨.mk l.b l.Fp l.Fk (X ++ []) l.ks, some ⟨lpb, lpo, none⟩, lc, lka, lkc⟩, ⟨.mk r.b F2 r.Fk ([] ++ m :: r.ps) r.ks, a2, c2, rka, rkc⟩] (subsOf h (l.ks ++ r.ks) ++ (A ++ B).map fun k => (h, k)) := HS4.out.perm (List.Perm.swap _ _ _) (List.Perm.refl _)
 obtain ⟨g2, k1, k2, k3, k4, k5, k6, k7⟩ := Sx.two_done (l := l) (r := r) (A := A) (B := B) hs5 HQ.out.2.1 rfl rfl
 exact ⟨_, _, g2, k1, k2, k3, k4, List.append_nil X, HLK.out, rfl, HRK.out, k5, k6, k7⟩
set_option maxHeartbeats 8000000 in
set_option maxRecDepth 100000 in
theorem fromLeft_node (h : Nat) (g l r : G) (A B : List G) (C D X : List Pr) (m z : Pr) (i : Nat) (hi : i = C.length + 1) (hps : g.ps = C ++ m :: D) (hks : g.ks = A ++ l :: r :: B) (ha : A.length = C.length) (hlp : l.ps = X ++ [z]) (KX : List G) (y : G) (hlk : l.ks = KX ++ [y]) (hKX : KX.length = X.length + 1)
  (b1 : g.ps.length ≤ 1000) (b2 : g.ks.length ≤ 1000) (b3 : l.ps.length ≤ 1000) (b4 : r.ps.length ≤ 1000) (b5 : l.ks.length ≤ 1000) (b6 : r.ks.length ≤ 1000) (w : World) (hn : Nd w (h + 1) g) :
  Calls Tryz.prog 160 #[ptrV g.b, .int .i64 i] w (TwoTo w h g (C ++ z :: D) A B X KX (m :: r.ps) (y :: r.ks)) := by
 obtain ⟨la, lc, lka, lkc, ra, rc, rka, rkc, ga, gc, gka, gkc, hS⟩ := Sx.ofSt (St.kid2 hn hks)
 have htl := hS.top ⟨l, la, lc, lka, lkc⟩ (by simp)
 have htr := hS.top ⟨r, ra, rc, rka, rkc⟩ (by simp)
 have htg := hS.top ⟨g, ga, gc, gka, gkc⟩ (by simp)
 have hmm : g.ps[C.length]? = some m := by rw [hps]; simp
 have hzz : l.ps[X.length]? = some z := by rw [hlp]; simp
 have hkl : g.ks[C.length]? = some l := by rw [hks, ← ha]; simp
 have hkr : g.ks[C.length + 1]? = some r := by rw [hks, ← ha, show A ++ l :: r :: B = (A ++ [l]) ++ r :: B by simp, show A.length + 1 = (A ++ [l]).length by simp]; simp
 obtain ⟨gpb, gpo, rfl, _⟩ := Top.pair (g := g) htg hmm
 obtain ⟨lpb, lpo, rfl, _⟩ := Top.pair (g := l) htl hzz
 obtain ⟨gkb, gko, rfl, _⟩ := Top.kid (g := g) htg hkl
 have hyy : l.ks[X.length + 1]? = some y := by rw [hlk, ← hKX]; simp
 obtain ⟨lkb, lko, rfl, _⟩ := Top.kid (g := l) htl hyy
 have hnl : l.ps.length = X.length + 1 := by rw [hlp]; simp
 have hnr : l.b ≠ r.b := hS.ne (t := ⟨l, some ⟨lpb, lpo, none⟩, lc, some ⟨lkb, lko, none⟩, lkc⟩) (t' := ⟨r, ra, rc, rka, rkc⟩) (by simp)
 have hlg : l.b ≠ g.b := hS.ne (t := ⟨l, some ⟨lpb, lpo, none⟩, lc, some ⟨lkb, lko, none⟩, lkc⟩) (t' := ⟨g, some ⟨gpb, gpo, none⟩, gc, some ⟨gkb, gko, none⟩, gkc⟩) (by simp)
 have c0 := htl.c0
 have d0 := htg.c0
 have d1 := htg.c1
 have e0 := (Top.kidAt (g := g) htg hkl).1
 have e1 := (Top.kidAt (g := g) htg hkr).1
 simp only at c0 d0 d1
 have hgn : g.ks.length = A.length + 2 + B.length := by rw [hks]; simp; omega
 have hpn : g.ps.length = C.length + 1 + D.length := by rw [hps]; simp; omega
 have HLK := Lib.hid (And.intro hlk (And.intro hKX hyy))
 obtain ⟨nlk, hnlk⟩ : ∃ n, l.ks.length = n := ⟨_, rfl⟩
 obtain ⟨nrk, hnrk⟩ : ∃ n, r.ks.length = n := ⟨_, rfl⟩
 have HKN := Lib.hid (And.intro hnlk hnrk)
 have hnlk2 : nlk = l.ps.length + 1 := by rw [← hnlk, hlk]; simp; omega
 rw [hnlk] at b5
 rw [hnrk] at b6
 rw [show C.length = i - 1 by omega] at hmm e0
 rw [show C.length + 1 = i by omega] at e1
 have HS := Lib.hid hS
 have HMM := Lib.hid hmm
 have HQ := Lib.hid (And.intro hps (And.intro hks (And.intro ha (And.intro hlp hzz))))
 obtain ⟨ng, hng⟩ : ∃ n, g.ps.length = n := ⟨_, rfl⟩
 obtain ⟨nk, hnk⟩ : ∃ n, g.ks.length = n := ⟨_, rfl⟩
 obtain ⟨nl, hnl2⟩ : ∃ n, l.ps.length = n := ⟨_, rfl⟩
 obtain ⟨nr, hnr2⟩ : ∃ n, r.ps.length = n := ⟨_, rfl⟩
 have hXl : X.length = nl - 1 := by omega
 have HLN := Lib.hid (And.intro hng (And.intro hnk (And.intro hnl2 (And.intro hnr2 (And.intro hXl (And.intro hi (And.intro hnr (And.intro hpn hgn))))))))
 rw [hng] at d0 b1 hpn
 rw [hnk] at d1 b2 hgn
 rw [hnl2] at c0 b3 hnl
 rw [hnr2] at b4
 have hi0 : (0 : Int) ≤ (i : Int) := by omega
 have hi1 : (1 : Int) ≤ (i : Int) := by omega
 have hi2 : (i : Int) < (nk : Int) := by omega
 have hi3 : (i : Int) ≤ (ng : Int) := by omega
 have hi4 : (i : Int) - 1 < (nk : Int) := by omega
 have hi5 : (0 : Int) ≤ (i : Int) - 1 := by omega
 have hi6 : (i : Int) - 1 < (ng : Int) := by omega
 have hl0 : (1 : Int) ≤ (nl : Int) := by omega
 have hl1 : (nl : Int) ≤ 1000 := by omega
 have hk1 : (nk : Int) ≤ 1000 := by omega
 have hg1 : (ng : Int) ≤ 1000 := by omega
 have hr1 : (nr : Int) ≤ 1000 := by omega
 have hk3 : (nl : Int) < (nlk : Int) := by omega
 have hk4 : (nlk : Int) ≤ 1000 := by omega
 have hk5 : (nrk : Int) ≤ 1000 := by omega
 have HK6 := Lib.hid hnlk2
 clear hn hS htl htr htg hmm hzz hkl hkr hps hks ha hlp hng hnk hnl2 hnr2 hXl hnl hi hpn hgn hlk hKX hyy hnlk hnrk hnlk2
 go_enter Tryz.func160, Tryz.ntmps160
 go_wp2
 go_quiet (fail)
 go_wp2
 obtain ⟨W1, hW1⟩ : ∃ W1, W1 = w.drewN nq := ⟨_, rfl⟩
 rw [← hW1]
 have HS1 : Hid (Sx w (foot (h + 1) g) W1 [⟨l, some ⟨lpb, lpo, none⟩, lc, some ⟨lkb, lko, none⟩, lkc⟩, ⟨r, ra, rc, rka, rkc⟩, ⟨g, some ⟨gpb, gpo, none⟩, gc, some ⟨gkb, gko, none⟩, gkc⟩] (subsOf h (l.ks ++ r.ks) ++ (A ++ B).map fun k => (h, k))) := Lib.hid (by rw [hW1]; exact HS.out.later (below_drewN w nq))
 clear hW1
 have HI2 := Lib.hid (Sx.insP (t := ⟨r, ra, rc, rka, rkc⟩) (T := [⟨l, some ⟨lpb, lpo, none⟩, lc, some ⟨lkb, lko, none⟩, lkc⟩, ⟨g, some ⟨gpb, gpo, none⟩, gc, some ⟨gkb, gko, none⟩, gkc⟩]) (C := []) (D := r.ps) (x := m) (i := 0) (n := nr) (vb := W1.heap.size) (E := (W1.alloc (.cells #[.string ⟨m.1.toArray⟩, .string ⟨m.2.toArray⟩] 168)).drew) (HS1.out.perm (List.Perm.swap _ _ _) (List.Perm.refl _)) rfl rfl HLN.out.2.2.2.1 (by omega) (alE W1 (.cells #[.string ⟨m.1.toArray⟩, .string ⟨m.2.toArray⟩] 168)) ((Arg.made W1 [.string ⟨m.1.toArray⟩, .string ⟨m.2.toArray⟩] 168 (by intro u hu; simp only [List.mem_cons, List.not_mem_nil, or_false] at hu; rcases hu with rfl | rfl <;> rfl)).block rfl) (Nat.le_refl _) 0 rfl)
 have x0 := (HS1.out.top ⟨g, some ⟨gpb, gpo, none⟩, gc, some ⟨gkb, gko, none⟩, gkc⟩ (by simp)).c0
 have x1 := (HS1.out.top ⟨r, ra, rc, rka, rkc⟩ (by simp)).c0
 have x2 := (Top.pairAt (g := g) (HS1.out.top ⟨g, some ⟨gpb, gpo, none⟩, gc, some ⟨gkb, gko, none⟩, gkc⟩ (by simp)) HMM.out).1
 simp only [HLN.out.1, HLN.out.2.2.2.1] at x0 x1
 have hw2 : ((i : Int) - 1).toNat = i - 1 := by omega
 have hw1 : IntKind.i64.wrap ((i : Int) - 1) = (i : Int) - 1 := by rw [IntKind.wrap_i64]; omega
 refine wp_region_till 17 (fun V => (V.cell? ⟨gpb, gpo + (i - 1) * 2, none⟩ = some (.string ⟨m.1.toArray⟩) ∧ V.cell? ⟨gpb, gpo + (i - 1) * 2 + 1, none⟩ = some (.string ⟨m.2.toArray⟩)) ∧ V.cell? ⟨g.b, 0, none⟩ = some (.slice (some ⟨gpb, gpo, none⟩) ng gc) ∧ V.cell? ⟨r.b, 0, none⟩ = some (.slice ra nr rc)) (by kernel_rfl) (⟨x2, x0, x1⟩) (fun hH => ?_)
 refine zzU (i := 0) (v := ?v0) rfl (by kernel_rfl) (fun _ _ _ h => h) rfl ?h0 hH ?r0
 case h0 => (intro W h; (try dsimp only at h); go_simp; all_goals (with_reducible rfl))
 try simp only [zzA, zzC, Act.put, zzD, zzE, zzF]
 refine zzU (i := 1) (v := ?v1) rfl (by kernel_rfl) (fun _ _ _ h => h) rfl ?h1 hH ?r1
 case h1 => (intro W h; (try dsimp only at h); go_simp; all_goals (with_reducible rfl))
 try simp only [zzA, zzB, zzC, Act.put, zzD, zzE, zzF]
 refine zzU (i := 2) (v := ?v2) rfl (by kernel_rfl) (fun _ _ _ h => h) rfl ?h2 hH ?r2
 case h2 => (intro W h; (try dsimp only at h); go_simp; all_goals (with_reducible rfl))
 try simp only [zzA, zzB, zzC, Act.put, zzD, zzE, zzF]
 refine zzU (i := 3) (v := ?v3) rfl (by kernel_rfl) (fun _ _ _ h => h) rfl ?h3 hH ?r3
 case h3 => (intro W h; (try dsimp only at h); go_simp; all_goals (with_reducible rfl))
 try simp only [zzA, zzB, zzC, Act.put, zzD, zzE, zzF]
 refine zzU (i := 4) (v := ?v4) rfl (by kernel_rfl) (fun _ _ _ h => h) rfl ?h4 hH ?r4
 case h4 => (intro W h; (try dsimp only at h); go_simp; all_goals (with_reducible rfl))
 try simp only [zzA, zzB, zzC, Act.put, zzD, zzE, zzF]
 refine zzU (i := 5) (v := ?v5) rfl (by kernel_rfl) (fun _ _ _ h => h) rfl ?h5 hH ?r5
 case h5 => (intro W h; (try dsimp only at h); go_simp; all_goals (with_reducible rfl))
 try simp only [zzA, zzB, zzC, Act.put, zzD, zzE, zzF]
 refine zzU (i := 6) (v := ?v6) rfl (by kernel_rfl) (fun _ _ _ h => h) rfl ?h6 hH ?r6
 case h6 => (intro W h; (try dsimp only at h); go_simp; all_goals (with_reducible rfl))
 try simp only [zzA, zzB, zzC, Act.put, zzD, zzE, zzF]
 refine zzU (i := 7) (v := ?v7) rfl (by kernel_rfl) (fun _ _ _ h => h) rfl ?h7 hH ?r7
 case h7 => (intro W h; (try dsimp only at h); go_simp; all_goals (with_reducible rfl))
 try simp only [zzA, zzB, zzC, Act.put, zzD, zzE, zzF]
 refine zzU (i := 8) (v := ?v8) rfl (by kernel_rfl) (fun _ _ _ h => h) rfl ?h8 hH ?r8
 case h8 => (intro W h; (try dsimp only at h); go_simp; all_goals (with_reducible rfl))
 try simp only [zzA, zzB, zzC, Act.put, zzD, zzE, zzF]
 refine zzU (i := 9) (v := ?v9) rfl (by kernel_rfl) (fun _ _ _ h => h) rfl ?h9 hH ?r9
 case h9 => (intro W h; (try dsimp only at h); go_simp; all_goals (with_reducible rfl))
 try simp only [zzA, zzB, zzC, Act.put, zzD, zzE, zzF]
 refine zzU (i := 10) (v := ?v10) rfl (by kernel_rfl) (fun _ _ _ h => h) rfl ?h10 hH ?r10
 case h10 => (intro W h; (try dsimp only at h); go_simp; all_goals (with_reducible rfl))
 try simp only [zzA, zzB, zzC, Act.put, zzD, zzE, zzF]
 refine zzU (i := 11) (v := ?v11) rfl (by kernel_rfl) (fun _ _ _ h => h) rfl ?h11 hH ?r11
 case h11 => (intro W h; (try dsimp only at h); go_simp; all_goals (with_reducible rfl))
 try simp only [zzA, zzB, zzC, Act.put, zzD, zzE, zzF]
 refine zzU (i := 12) (v := ?v12) rfl (by kernel_rfl) (fun _ _ _ h => h) rfl ?h12 hH ?r12
 case h12 => (intro W h; (try dsimp only at h); go_simp; all_goals (with_reducible rfl))
 try simp only [zzA, zzB, zzC, Act.put, zzD, zzE, zzF]
 refine wpTill_one (i := 13) (by kernel_rfl) rfl rfl (fun K hK => ?_)
 go_simp
 have hH2 := And.intro (And.intro (old_cell hH.1.1 (alD W1 (.cells #[.string ⟨m.1.toArray⟩, .string ⟨m.2.toArray⟩] 168))) (old_cell hH.1.2 (alD W1 (.cells #[.string ⟨m.1.toArray⟩, .string ⟨m.2.toArray⟩] 168)))) (And.intro (old_cell hH.2.1 (alD W1 (.cells #[.string ⟨m.1.toArray⟩, .string ⟨m.2.toArray⟩] 168))) (old_cell hH.2.2 (alD W1 (.cells #[.string ⟨m.1.toArray⟩, .string ⟨m.2.toArray⟩] 168))))
 refine hK.out _ _ (fun _ => hH2) ?_
 clear hK K hH; have hH := hH2; clear hH2
 try simp only [zzA, zzB, zzC, Act.put, zzD, zzE, zzF]
 refine wpTill_one (i := 14) (by kernel_rfl) rfl rfl (fun K hK => ?_)
 go_simp
 (go_at_call 126; refine HI2.out.mono ?_; rintro e V ⟨a2, c2, F2, rfl, ⟨v0, v1⟩, HV, _, HS2⟩; have v2 := ((HV.out _ (List.mem_cons_of_mem _ (List.mem_cons_self ..))).pairAt HMM.out).1; have v3 := (HV.out _ (List.mem_cons_of_mem _ (List.mem_cons_self ..))).c0; simp only [HLN.out.1] at v3)
 have hH2 := And.intro v2 (And.intro v3 v0)
 refine hK.out _ _ (fun _ => hH2) ?_
 clear hK K hH; have hH := hH2; clear hH2
 try simp only [zzA, zzB, zzC, Act.put, zzD, zzE, zzF]
 refine wpTill_one (i := 15) (by kernel_rfl) rfl rfl (fun K hK => ?_)
 go_simp
 refine hK.out _ _ (fun _ => hH) ?_
 clear hK K
 try simp only [zzA, zzB, zzC, Act.put, zzD, zzE, zzF]
 refine wpTill_one (i := 16) (by kernel_rfl) rfl rfl (fun K hK => ?_)
 go_simp
 refine hK.out _ _ (fun _ => hH) ?_
 clear hK K
 try simp only [zzA, zzB, zzC, Act.put, zzD, zzE, zzF]
 refine wpTill_one (i := 17) (by kernel_rfl) rfl rfl (fun K hK => ?_)
 go_simp
 refine hK.out _ _ (fun h => absurd rfl h) ?_
 clear hK K
 try simp only [zzA, zzB, zzC, Act.put, zzD, zzE, zzF]
 refine wpTill_done (by kernel_rfl) ?_ _
 clear v0 v1 v2 v3 hH HI2 x0 x1 x2 HV hw1 hw2
 generalize V.setCell ⟨r.b, 0, none⟩ (.slice a2 (nr + 1) c2) = W2 at *
 have HSB := Lib.hid (HS2.out.perm (T' := [⟨g, some ⟨gpb, gpo, none⟩, gc, some ⟨gkb, gko, none⟩, gkc⟩, ⟨.mk r.b F2 r.Fk ([] ++ m :: r.ps) r.ks, a2, c2, rka, rkc⟩, ⟨l, some ⟨lpb, lpo, none⟩, lc, some ⟨lkb, lko, none⟩, lkc⟩]) (by simpa using (List.perm_append_comm (l₁ := [_, _]) (l₂ := [_]))) (List.Perm.refl _))
 have x0 := HSB.out.hd.c0
 have x1 := (HSB.out.top ⟨l, some ⟨lpb, lpo, none⟩, lc, some ⟨lkb, lko, none⟩, lkc⟩ (by simp)).c0
 have x2 := (Top.pairAt (g := l) (HSB.out.top ⟨l, some ⟨lpb, lpo, none⟩, lc, some ⟨lkb, lko, none⟩, lkc⟩ (by simp)) HQ.out.2.2.2.2).1
 have x3 := (Top.pairAt (g := g) HSB.out.hd HMM.out).1
 have x4 := (Top.pairAt (g := g) HSB.out.hd HMM.out).2.1
 rw [HLN.out.2.2.2.2.1] at x2
 simp only [HLN.out.1, HLN.out.2.2.1] at x0 x1
 have HP3 := Lib.hid (Sx.setPair (z := z) (i := i - 1) HSB.out HQ.out.1 (by have := HLN.out.2.2.2.2.2.1; omega))
 have q0 := HP3.out.2.1
 have q1 := (HP3.out.1 ⟨l, some ⟨lpb, lpo, none⟩, lc, some ⟨lkb, lko, none⟩, lkc⟩ (by simp)).c0
 have q2 := (Top.pairAt (g := l) (HP3.out.1 ⟨l, some ⟨lpb, lpo, none⟩, lc, some ⟨lkb, lko, none⟩, lkc⟩ (by simp)) HQ.out.2.2.2.2).1
 rw [HLN.out.2.2.2.2.1] at q2
 simp only [HLN.out.1, HLN.out.2.2.1] at q0 q1
 obtain ⟨x30, x31⟩ := x3
 have hw4 : ((nl : Int) - 1).toNat = nl - 1 := by omega
 have hw2 : ((i : Int) - 1).toNat = i - 1 := by omega
 have hl5 : (0 : Int) ≤ (nl : Int) - 1 := by omega
 have hl6 : (nl : Int) - 1 < (nl : Int) := by omega
 have hw1 : IntKind.i64.wrap ((i : Int) - 1) = (i : Int) - 1 := by rw [IntKind.wrap_i64]; omega
 obtain ⟨x40, x41⟩ := x4
 go_wp2
 go_region_held3 (fun V => ((V.cell? ⟨lpb, lpo + (nl - 1) * 2, none⟩ = some (.string ⟨z.1.toArray⟩) ∧ V.cell? ⟨lpb, lpo + (nl - 1) * 2 + 1, none⟩ = some (.string ⟨z.2.toArray⟩)) ∧ V.cell? ⟨g.b, 0, none⟩ = some (.slice (some ⟨gpb, gpo, none⟩) ng gc)) ∧ V.cell? ⟨l.b, 0, none⟩ = some (.slice (some ⟨lpb, lpo, none⟩) nl lc)) (first | exact ⟨⟨x2, x0⟩, x1⟩ | exact ⟨⟨q2, q0⟩, q1⟩) (fail)
 rename_i hHeld
 clear hHeld q0 q1 q2 x0 x1 x2 x30 x31 x40 x41 hw1 hw2 hw4
 have HS3 := Lib.hid (HP3.out.2.2.later (Below.refl _ _).drew)
 generalize ((W2.setCell ⟨gpb, gpo + (i - 1) * 2, none⟩ (.string ⟨z.1.toArray⟩)).setCell ⟨gpb, gpo + (i - 1) * 2 + 1, none⟩ (.string ⟨z.2.toArray⟩)).drew = W3 at *
 clear HP3
 have HSC := Lib.hid (HS3.out.perm (T' := [⟨l, some ⟨lpb, lpo, none⟩, lc, some ⟨lkb, lko, none⟩, lkc⟩, ⟨.mk g.b g.Fp g.Fk (C ++ z :: D) g.ks, some ⟨gpb, gpo, none⟩, gc, some ⟨gkb, gko, none⟩, gkc⟩, ⟨.mk r.b F2 r.Fk ([] ++ m :: r.ps) r.ks, a2, c2, rka, rkc⟩]) (by simpa using (List.perm_append_comm (l₁ := [_, _]) (l₂ := [_]))) (List.Perm.refl _))
 have HD4 := Lib.hid (fun zz yy hz hy => Sx.delP (t := ⟨l, some ⟨lpb, lpo, none⟩, lc, some ⟨lkb, lko, none⟩, lkc⟩) HSC.out (C := X) (D := []) (x := z) (i := nl - 1) (n := nl) HQ.out.2.2.2.1 HLN.out.2.2.2.2.1 HLN.out.2.2.1 (by omega) zz yy hz hy)
 have x1 := HSC.out.hd.c0
 simp only [HLN.out.2.2.1] at x1
 have HLF := Lib.hid (fun W hc => leaf_raw l.b (some ⟨lkb, lko, none⟩) l.ks.length lkc false (by rw [HLK.out.1]; simp) (by rw [HKN.out.1]; omega) W hc)
 go_wp2_with (first
  | (go_at_call 132; refine (HD4.out _ _ (by omega) (by omega)).mono ?_; rintro e V4 ⟨rfl, ⟨v0, v1⟩, _, _, HS4⟩)
  | (go_at_call 100; generalize V4.setCell ⟨l.b, 0, none⟩ (.slice (some ⟨lpb, lpo, none⟩) (nl - 1) lc) = W4 at *; refine (HLF.out _ HS4.out.hd.c1).mono ?_; rintro e W5 ⟨rfl, rfl⟩))
 have HL4 := Lib.hid (show X.length + 1 = nl by have := HLN.out.2.2.2.2.1; omega)
 have HSD := Lib.hid (HS4.out.perm (T' := [⟨.mk r.b F2 r.Fk ([] ++ m :: r.ps) r.ks, a2, c2, rka, rkc⟩, ⟨.mk l.b l.Fp l.Fk (X ++ []) l.ks, some ⟨lpb, lpo, none⟩, lc, some ⟨lkb, lko, none⟩, lkc⟩, ⟨.mk g.b g.Fp g.Fk (C ++ z :: D) g.ks, some ⟨gpb, gpo, none⟩, gc, some ⟨gkb, gko, none⟩, gkc⟩]) (by simpa using (List.perm_append_comm (l₁ := [_, _]) (l₂ := [_]))) (List.Perm.refl _))
 have HI6 := Lib.hid (Sx.insK (t := ⟨.mk r.b F2 r.Fk ([] ++ m :: r.ps) r.ks, a2, c2, rka, rkc⟩) (T := [⟨.mk l.b l.Fp l.Fk (X ++ []) l.ks, some ⟨lpb, lpo, none⟩, lc, some ⟨lkb, lko, none⟩, lkc⟩, ⟨.mk g.b g.Fp g.Fk (C ++ z :: D) g.ks, some ⟨gpb, gpo, none⟩, gc, some ⟨gkb, gko, none⟩, gkc⟩]) (A := []) (B := r.ks) (r := y) (i := 0) (n := nrk) (vb := W4.heap.size) (E := (W4.alloc (.cells #[ptrV y.b] 152)).drew) HSD.out rfl rfl HKN.out.2 (by omega) (alE W4 (.cells #[ptrV y.b] 152)) ((Arg.made W4 [ptrV y.b] 152 (by intro u hu; simp only [List.mem_cons, List.not_mem_nil, or_false] at hu; subst hu; rfl)).block rfl) (Nat.le_refl _) 0 rfl)
 have x0 : W4.cell? ⟨r.b, 1, none⟩ = some (.slice rka r.ks.length rkc) := HSD.out.hd.c1
 have x1 : W4.cell? ⟨l.b, 1, none⟩ = some (.slice (some ⟨lkb, lko, none⟩) l.ks.length lkc) := (HSD.out.top ⟨.mk l.b l.Fp l.Fk (X ++ []) l.ks, some ⟨lpb, lpo, none⟩, lc, some ⟨lkb, lko, none⟩, lkc⟩ (by simp)).c1
 have x2 := (Top.kidAt (HSD.out.top ⟨.mk l.b l.Fp l.Fk (X ++ []) l.ks, some ⟨lpb, lpo, none⟩, lc, some ⟨lkb, lko, none⟩, lkc⟩ (by simp)) HLK.out.2.2).1
 rw [HL4.out] at x2
 rw [HKN.out.2] at x0
 rw [HKN.out.1] at x1
 have hw5 : (nl : Int).toNat = nl := by omega
 have hw6 : IntKind.i64.wrap (nl : Int) = (nl : Int) := by rw [IntKind.wrap_i64]; omega
 refine wp_region_till 17 (fun V => (V.cell? ⟨lkb, lko + nl, none⟩ = some (ptrV y.b) ∧ V.cell? ⟨l.b, 1, none⟩ = some (.slice (some ⟨lkb, lko, none⟩) nlk lkc)) ∧ V.cell? ⟨r.b, 1, none⟩ = some (.slice rka nrk rkc)) (by kernel_rfl) (⟨⟨x2, x1⟩, x0⟩) (fun hH => ?_)
 refine zzU (i := 0) (v := ?vs0) rfl (by kernel_rfl) (fun _ _ _ h => h) rfl ?hs0 hH ?rs0
 case hs0 => (intro W h; (try dsimp only at h); go_simp; all_goals (with_reducible rfl))
 try simp only [zzA, zzC, Act.put, zzD, zzE, zzF]
 refine zzU (i := 1) (v := ?vs1) rfl (by kernel_rfl) (fun _ _ _ h => h) rfl ?hs1 hH ?rs1
 case hs1 => (intro W h; (try dsimp only at h); go_simp; all_goals (with_reducible rfl))
 try simp only [zzA, zzB, zzC, Act.put, zzD, zzE, zzF]
 refine zzU (i := 2) (v := ?vs2) rfl (by kernel_rfl) (fun _ _ _ h => h) rfl ?hs2 hH ?rs2
 case hs2 => (intro W h; (try dsimp only at h); go_simp; all_goals (with_reducible rfl))
 try simp only [zzA, zzB, zzC, Act.put, zzD, zzE, zzF]
 refine zzU (i := 3) (v := ?vs3) rfl (by kernel_rfl) (fun _ _ _ h => h) rfl ?hs3 hH ?rs3
 case hs3 => (intro W h; (try dsimp only at h); go_simp; all_goals (with_reducible rfl))
 try simp only [zzA, zzB, zzC, Act.put, zzD, zzE, zzF]
 refine zzU (i := 4) (v := ?vs4) rfl (by kernel_rfl) (fun _ _ _ h => h) rfl ?hs4 hH ?rs4
 case hs4 => (intro W h; (try dsimp only at h); go_simp; all_goals (with_reducible rfl))
 try simp only [zzA, zzB, zzC, Act.put, zzD, zzE, zzF]
 refine zzU (i := 5) (v := ?vs5) rfl (by kernel_rfl) (fun _ _ _ h => h) rfl ?hs5 hH ?rs5
 case hs5 => (intro W h; (try dsimp only at h); go_simp; all_goals (with_reducible rfl))
 try simp only [zzA, zzB, zzC, Act.put, zzD, zzE, zzF]
 refine zzU (i := 6) (v := ?vs6) rfl (by kernel_rfl) (fun _ _ _ h => h) rfl ?hs6 hH ?rs6
 case hs6 => (intro W h; (try dsimp only at h); go_simp; all_goals (with_reducible rfl))
 try simp only [zzA, zzB, zzC, Act.put, zzD, zzE, zzF]
 refine zzU (i := 7) (v := ?vs7) rfl (by kernel_rfl) (fun _ _ _ h => h) rfl ?hs7 hH ?rs7
 case hs7 => (intro W h; (try dsimp only at h); go_simp; all_goals (with_reducible rfl))
 try simp only [zzA, zzB, zzC, Act.put, zzD, zzE, zzF]
 refine zzU (i := 8) (v := ?vs8) rfl (by kernel_rfl) (fun _ _ _ h => h) rfl ?hs8 hH ?rs8
 case hs8 => (intro W h; (try dsimp only at h); go_simp; all_goals (with_reducible rfl))
 try simp only [zzA, zzB, zzC, Act.put, zzD, zzE, zzF]
 refine zzU (i := 9) (v := ?vs9) rfl (by kernel_rfl) (fun _ _ _ h => h) rfl ?hs9 hH ?rs9
 case hs9 => (intro W h; (try dsimp only at h); go_simp; all_goals (with_reducible rfl))
 try simp only [zzA, zzB, zzC, Act.put, zzD, zzE, zzF]
 refine zzU (i := 10) (v := ?vs10) rfl (by kernel_rfl) (fun _ _ _ h => h) rfl ?hs10 hH ?rs10
 case hs10 => (intro W h; (try dsimp only at h); go_simp; all_goals (with_reducible rfl))
 try simp only [zzA, zzB, zzC, Act.put, zzD, zzE, zzF]
 refine zzU (i := 11) (v := ?vs11) rfl (by kernel_rfl) (fun _ _ _ h => h) rfl ?hs11 hH ?rs11
 case hs11 => (intro W h; (try dsimp only at h); go_simp; all_goals (with_reducible rfl))
 try simp only [zzA, zzB, zzC, Act.put, zzD, zzE, zzF]
 refine zzU (i := 12) (v := ?vs12) rfl (by kernel_rfl) (fun _ _ _ h => h) rfl ?hs12 hH ?rs12
 case hs12 => (intro W h; (try dsimp only at h); go_simp; all_goals (with_reducible rfl))
 try simp only [zzA, zzB, zzC, Act.put, zzD, zzE, zzF]
 refine wpTill_one (i := 13) (by kernel_rfl) rfl rfl (fun K hK => ?_)
 go_simp
 have hH2 := And.intro (And.intro (old_cell hH.1.1 (alD W4 (.cells #[ptrV y.b] 152))) (old_cell hH.1.2 (alD W4 (.cells #[ptrV y.b] 152)))) (old_cell hH.2 (alD W4 (.cells #[ptrV y.b] 152)))
 refine hK.out _ _ (fun _ => hH2) ?_
 clear hK K hH; have hH := hH2; clear hH2
 try simp only [zzA, zzB, zzC, Act.put, zzD, zzE, zzF]
 refine wpTill_one (i := 14) (by kernel_rfl) rfl rfl (fun K hK => ?_)
 go_simp
 (go_at_call 127; refine HI6.out.mono ?_; rintro e V6 ⟨a6, c6, F6, rfl, ⟨u0, u1⟩, HV, _, HS6⟩; have v0 : V6.cell? ⟨r.b, 1, none⟩ = some (.slice rka nrk rkc) := u0; have v1 : V6.frozen? ⟨r.b, 1, none⟩ = false := u1; clear u0 u1; have v2 := (Top.kidAt (HV.out ⟨.mk l.b l.Fp l.Fk (X ++ []) l.ks, some ⟨lpb, lpo, none⟩, lc, some ⟨lkb, lko, none⟩, lkc⟩ (List.mem_cons_self ..)) HLK.out.2.2).1; rw [HL4.out] at v2; have v3 : V6.cell? ⟨l.b, 1, none⟩ = some (.slice (some ⟨lkb, lko, none⟩) l.ks.length lkc) := (HV.out ⟨.mk l.b l.Fp l.Fk (X ++ []) l.ks, some ⟨lpb, lpo, none⟩, lc, some ⟨lkb, lko, none⟩, lkc⟩ (List.mem_cons_self ..)).c1; rw [HKN.out.1] at v3)
 have hH2 := And.intro (And.intro v2 v3) v0
 refine hK.out _ _ (fun _ => hH2) ?_
 clear hK K hH; have hH := hH2; clear hH2
 try simp only [zzA, zzB, zzC, Act.put, zzD, zzE, zzF]
 refine wpTill_one (i := 15) (by kernel_rfl) rfl rfl (fun K hK => ?_)
 go_simp
 refine hK.out _ _ (fun _ => hH) ?_
 clear hK K
 try simp only [zzA, zzB, zzC, Act.put, zzD, zzE, zzF]
 refine wpTill_one (i := 16) (by kernel_rfl) rfl rfl (fun K hK => ?_)
 go_simp
 refine hK.out _ _ (fun _ => hH) ?_
 clear hK K
 try simp only [zzA, zzB, zzC, Act.put, zzD, zzE, zzF]
 refine wpTill_one (i := 17) (by kernel_rfl) rfl rfl (fun K hK => ?_)
 go_simp
 refine hK.out _ _ (fun h => absurd rfl h) ?_
 clear hK K
 try simp only [zzA, zzB, zzC, Act.put, zzD, zzE, zzF]
 refine wpTill_done (by kernel_rfl) ?_ _
 clear v0 v1 v2 v3 hH HI6 x0 x1 x2 HV hw5 hw6
 have HS7 : Hid (Sx w (foot (h + 1) g) (V6.setCell ⟨r.b, 1, none⟩ (.slice a6 (nrk + 1) c6)) [⟨.mk r.b F2 F6 ([] ++ m :: r.ps) ([] ++ y :: r.ks), a2, c2, a6, c6⟩, ⟨.mk l.b l.Fp l.Fk (X ++ []) l.ks, some ⟨lpb, lpo, none⟩, lc, some ⟨lkb, lko, none⟩, lkc⟩, ⟨.mk g.b g.Fp g.Fk (C ++ z :: D) g.ks, some ⟨gpb, gpo, none⟩, gc, some ⟨gkb, gko, none⟩, gkc⟩] (subsOf h (l.ks ++ r.ks) ++ (A ++ B).map fun k => (h, k))) := HS6
 clear HS6
 generalize V6.setCell ⟨r.b, 1, none⟩ (.slice a6 (nrk + 1) c6) = W6 at *
 have HSE := Lib.hid (HS7.out.perm (T' := [⟨.mk l.b l.Fp l.Fk (X ++ []) l.ks, some ⟨lpb, lpo, none⟩, lc, some ⟨lkb, lko, none⟩, lkc⟩, ⟨.mk r.b F2 F6 ([] ++ m :: r.ps) ([] ++ y :: r.ks), a2, c2, a6, c6⟩, ⟨.mk g.b g.Fp g.Fk (C ++ z :: D) g.ks, some ⟨gpb, gpo, none⟩, gc, some ⟨gkb, gko, none⟩, gkc⟩]) (List.Perm.swap _ _ _) (List.Perm.refl _))
 have HD7 := Lib.hid (fun zz yy hz hy => Sx.delK (t := ⟨.mk l.b l.Fp l.Fk (X ++ []) l.ks, some ⟨lpb, lpo, none⟩, lc, some ⟨lkb, lko, none⟩, lkc⟩) HSE.out (A := KX) (B := []) (r := y) (i := nl) (n := nlk) HLK.out.1 (by rw [HLK.out.2.1]; exact HL4.out) HKN.out.1 (by omega) zz yy hz hy)
 have x1 : W6.cell? ⟨l.b, 1, none⟩ = some (.slice (some ⟨lkb, lko, none⟩) l.ks.length lkc) := HSE.out.hd.c1
 rw [HKN.out.1] at x1
 go_wp2_with (go_at_call 171; refine (HD7.out _ _ (by omega) (by omega)).mono ?_; rintro e V7 ⟨rfl, ⟨u0, u1⟩, _, _, HS8⟩; have v0 : V7.cell? ⟨l.b, 1, none⟩ = some (.slice (some ⟨lkb, lko, none⟩) nlk lkc) := u0; have v1 : V7.frozen? ⟨l.b, 1, none⟩ = false := u1; clear u0 u1)
 go_end0
 refine ⟨rfl, ?_⟩
 have hs5 : Sx w (foot (h + 1) g) (V7.setCell ⟨l.b, 1, none⟩ (.slice (some ⟨lkb, lko, none⟩) (nlk - 1) lkc)) [⟨.mk g.b g.Fp g.Fk (C ++ z :: D) g.ks, some ⟨gpb, gpo, none⟩, gc, some ⟨gkb, gko, none⟩, gkc⟩, ⟨.mk l.b l.Fp l.Fk (X ++ []) (KX ++ []), some ⟨lpb, lpo, none⟩, lc, some ⟨lkb, lko, none⟩, lkc⟩, ⟨.mk r.b F2 F6 ([] ++ m :: r.ps) ([] ++ y :: r.ks), a2, c2, a6, c6⟩] (subsOf h ((KX ++ []) ++ ([] ++ y :: r.ks)) ++ (A ++ B).map fun k => (h, k)) := by
  have := HS8.out
  rw [HLK.out.1, show KX ++ [y] ++ r.ks = (KX ++ []) ++ ([] ++ y :: r.ks) by simp] at this
  exact this.perm (show List.Perm ([_, _] ++ [_]) ([_] ++ [_, _]) from List.perm_append_comm) (List.Perm.refl _)
 obtain ⟨g2, k1, k2, k3, k4, k5, k6, k7⟩ := Sx.two_done (l := l) (r := r) (A := A) (B := B) hs5 HQ.out.2.1 rfl rfl
 exact ⟨_, _, g2, k1, k2, k3, k4, List.append_nil X, List.append_nil KX, rfl, rfl, k5, k6, k7⟩
end Go.Proofs.YtecnijnmgdfdhaaGreat
