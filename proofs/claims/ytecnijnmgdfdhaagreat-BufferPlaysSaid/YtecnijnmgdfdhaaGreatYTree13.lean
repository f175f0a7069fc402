/- Joined: Tree13. -/
import Derived.Test.YtecnijnmgdfdhaaGreatYTreeC
namespace Go.Proofs.YtecnijnmgdfdhaaGreat
open Go.RowKit Tr
set_option maxHeartbeats 8000000 in
set_option maxRecDepth 100000 in
theorem fromRight_leaf (h : Nat) (g l r : G) (A B : List G) (C D : List Pr) (m : Pr) (i : Nat) (hi : C.length = i) (hps : g.ps = C ++ m :: D) (hks : g.ks = A ++ l :: r :: B) (ha : A.length = C.length) (Y : List Pr) (z : Pr) (hrp : r.ps = z :: Y) (hlk : l.ks = []) (hrk : r.ks = [])
  (b1 : g.ps.length ≤ 1000) (b2 : g.ks.length ≤ 1000) (b3 : l.ps.length ≤ 1000) (b4 : r.ps.length ≤ 1000) (b5 : l.ks.length ≤ 1000) (b6 : r.ks.length ≤ 1000) (w : World) (hn : Nd w (h + 1) g) :
  Calls Tryz.prog 161 #[ptrV g.b, .int .i64 i] w (TwoTo w h g (C ++ z :: D) A B (l.ps ++ [m]) [] Y []) := by
 subst hi
 obtain ⟨la, lc, lka, lkc, ra, rc, rka, rkc, ga, gc, gka, gkc, hS⟩ := Sx.ofSt (St.kid2 hn hks)
 have htr := hS.top ⟨r, ra, rc, rka, rkc⟩ (by simp)
 have htg := hS.top ⟨g, ga, gc, gka, gkc⟩ (by simp)
 have hmm : g.ps[C.length]? = some m := by rw [hps]; simp
 have hkl : g.ks[C.length]? = some l := by rw [hks, ← ha]; simp
 have hkr : g.ks[C.length + 1]? = some r := by rw [hks, ← ha, show A ++ l :: r :: B = (A ++ [l]) ++ r :: B by simp, show A.length + 1 = (A ++ [l]).length by simp]; simp
 obtain ⟨gpb, gpo, rfl, _⟩ := Top.pair (g := g) htg hmm
 obtain ⟨gkb, gko, rfl, _⟩ := Top.kid (g := g) htg hkl
 have hzz : r.ps[0]? = some z := by rw [hrp]; rfl
 obtain ⟨rpb, rpo, rfl, _⟩ := Top.pair (g := r) htr hzz
 have d0 : w.cell? ⟨g.b, 0, none⟩ = some (.slice (some ⟨gpb, gpo, none⟩) g.ps.length gc) := htg.c0
 have d1 : w.cell? ⟨g.b, 1, none⟩ = some (.slice (some ⟨gkb, gko, none⟩) g.ks.length gkc) := htg.c1
 have e0 := (Top.kidAt (g := g) htg hkl).1
 have e1 := (Top.kidAt (g := g) htg hkr).1
 have hgn : g.ks.length = A.length + 2 + B.length := by rw [hks]; simp; omega
 have hpn : g.ps.length = C.length + 1 + D.length := by rw [hps]; simp; omega
 have HS := Lib.hid hS
 have HMM := Lib.hid hmm
 have HQ := Lib.hid (And.intro hps (And.intro hks ha))
 have HZZ := Lib.hid (And.intro hzz hrp)
 have hnr0 : r.ps.length = Y.length + 1 := by rw [hrp]; rfl
 have HLK := Lib.hid hlk
 have HRK := Lib.hid hrk
 obtain ⟨i, hi⟩ : ∃ i, C.length = i := ⟨_, rfl⟩
 rw [hi] at e0 e1 HMM ⊢
 obtain ⟨ng, hng⟩ : ∃ n, g.ps.length = n := ⟨_, rfl⟩
 obtain ⟨nk, hnk⟩ : ∃ n, g.ks.length = n := ⟨_, rfl⟩
 obtain ⟨nl, hnl⟩ : ∃ n, l.ps.length = n := ⟨_, rfl⟩
 obtain ⟨nr, hnr⟩ : ∃ n, r.ps.length = n := ⟨_, rfl⟩
 obtain ⟨nlk, hnlk⟩ : ∃ n, l.ks.length = n := ⟨_, rfl⟩
 obtain ⟨nrk, hnrk⟩ : ∃ n, r.ks.length = n := ⟨_, rfl⟩
 have HLN := Lib.hid (And.intro hng (And.intro hnk (And.intro hnl (And.intro hnr (And.intro hnlk (And.intro hnrk (And.intro hi (And.intro hpn hgn))))))))
 rw [hng] at d0 b1 hpn
 rw [hnk] at d1 b2 hgn
 rw [hnl] at b3
 rw [hnr] at b4
 rw [hnlk] at b5
 rw [hnrk] at b6
 have hi0 : (0 : Int) ≤ (i : Int) := by omega
 have hi2 : (i : Int) + 1 < (nk : Int) := by omega
 have hi3 : (i : Int) < (ng : Int) := by omega
 have hi4 : (i : Int) < (nk : Int) := by omega
 have hi5 : (0 : Int) ≤ (i : Int) + 1 := by omega
 have hk1 : (nk : Int) ≤ 1000 := by omega
 have hg1 : (ng : Int) ≤ 1000 := by omega
 have hl1 : (nl : Int) ≤ 1000 := by omega
 have hr1 : (nr : Int) ≤ 1000 := by omega
 have hl2 : (nlk : Int) ≤ 1000 := by omega
 have hr2 : (nrk : Int) ≤ 1000 := by omega
 have hr3 : 0 < nr := by omega
 clear hn hS htr htg hmm hkl hkr hps hks ha hng hnk hnl hnr hnlk hnrk hi hpn hgn hzz hrp hnr0 hlk hrk
 go_enter Tryz.func161, Tryz.ntmps161
 go_wp2
 go_quiet (fail)
 go_wp2
 obtain ⟨W1, hW1⟩ : ∃ W1, W1 = w.drewN nq := ⟨_, rfl⟩
 rw [← hW1]
 have HS1 : Hid (Sx w (foot (h + 1) g) W1 [⟨l, la, lc, lka, lkc⟩, ⟨r, some ⟨rpb, rpo, none⟩, rc, rka, rkc⟩, ⟨g, some ⟨gpb, gpo, none⟩, gc, some ⟨gkb, gko, none⟩, gkc⟩] (subsOf h (l.ks ++ r.ks) ++ (A ++ B).map fun k => (h, k))) := Lib.hid (by rw [hW1]; exact HS.out.later (below_drewN w nq))
 clear hW1
 -- the node's pair, behind the first child's
 obtain ⟨a2, c2, F2, V2, hrun, ⟨hv0, hv1⟩, hV2, hS2⟩ := Sx.appP (t := ⟨l, la, lc, lka, lkc⟩) HS1.out (n := nl) (E := (W1.alloc (.cells #[.string ⟨m.1.toArray⟩, .string ⟨m.2.toArray⟩] 168)).drew) HLN.out.2.2.1 (alE W1 (.cells #[.string ⟨m.1.toArray⟩, .string ⟨m.2.toArray⟩] 168)) (L := [m]) (((Arg.made W1 [.string ⟨m.1.toArray⟩, .string ⟨m.2.toArray⟩] 168 (by intro u hu; simp only [List.mem_cons, List.not_mem_nil, or_false] at hu; rcases hu with rfl | rfl <;> rfl)).block (w' := (W1.alloc (.cells #[.string ⟨m.1.toArray⟩, .string ⟨m.2.toArray⟩] 168)).drew) rfl).rd (size := 2) (n := 1) rfl (by decide)) rfl (by omega)
 have HRUN := Lib.hid hrun
 have HS2 : Hid (Sx w (foot (h + 1) g) (V2.setCell ⟨l.b, 0, none⟩ (.slice a2 (nl + 1) c2)) [⟨.mk l.b F2 l.Fk (l.ps ++ [m]) l.ks, a2, c2, lka, lkc⟩, ⟨r, some ⟨rpb, rpo, none⟩, rc, rka, rkc⟩, ⟨g, some ⟨gpb, gpo, none⟩, gc, some ⟨gkb, gko, none⟩, gkc⟩] (subsOf h (l.ks ++ r.ks) ++ (A ++ B).map fun k => (h, k))) := Lib.hid hS2
 have v0 : V2.cell? ⟨l.b, 0, none⟩ = some (.slice la nl lc) := hv0
 have v1 : V2.frozen? ⟨l.b, 0, none⟩ = false := hv1
 have v2 := (Top.pairAt (g := g) (hV2 ⟨g, some ⟨gpb, gpo, none⟩, gc, some ⟨gkb, gko, none⟩, gkc⟩ (by simp)) HMM.out).1
 have v3 : V2.cell? ⟨g.b, 0, none⟩ = some (.slice (some ⟨gpb, gpo, none⟩) g.ps.length gc) := (hV2 ⟨g, some ⟨gpb, gpo, none⟩, gc, some ⟨gkb, gko, none⟩, gkc⟩ (by simp)).c0
 have x0 : W1.cell? ⟨g.b, 0, none⟩ = some (.slice (some ⟨gpb, gpo, none⟩) g.ps.length gc) := (HS1.out.top ⟨g, some ⟨gpb, gpo, none⟩, gc, some ⟨gkb, gko, none⟩, gkc⟩ (by simp)).c0
 have x1 : W1.cell? ⟨l.b, 0, none⟩ = some (.slice la l.ps.length lc) := (HS1.out.top ⟨l, la, lc, lka, lkc⟩ (by simp)).c0
 have x2 := (Top.pairAt (g := g) (HS1.out.top ⟨g, some ⟨gpb, gpo, none⟩, gc, some ⟨gkb, gko, none⟩, gkc⟩ (by simp)) HMM.out).1
 rw [HLN.out.1] at x0 v3
 rw [HLN.out.2.2.1] at x1
 clear hrun hS2 hV2 hv0 hv1
 refine wp_region_till 16 (fun V => (V.cell? ⟨gpb, gpo + i * 2, none⟩ = some (.string ⟨m.1.toArray⟩) ∧ V.cell? ⟨gpb, gpo + i * 2 + 1, none⟩ = some (.string ⟨m.2.toArray⟩)) ∧ V.cell? ⟨g.b, 0, none⟩ = some (.slice (some ⟨gpb, gpo, none⟩) ng gc) ∧ V.cell? ⟨l.b, 0, none⟩ = some (.slice la nl lc)) (by kernel_rfl) (⟨x2, x0, x1⟩) (fun hH => ?_)
 refine zzU (i := 0) (v := ?v0) rfl (by kernel_rfl) (fun _ _ _ h => h) rfl ?h0 hH ?r0
 case h0 => (intro W h; (try dsimp only at h); go_simp; all_goals (with_reducible rfl))
 try simp only [zzA, zzC, Act.put, zzD, zzE, zzF]
 refine zzU (i := 1) (v := ?v1) rfl (by kernel_rfl) (fun _ _ _ h => h) rfl ?h1 hH ?r1
 case h1 => (intro W h; (try dsimp only at h); go_simp; all_goals (with_reducible rfl))
 try simp only [zzA, zzB, zzC, Act.put, zzD, zzE, zzF]
 refine zzU (i := 2) (v := ?v2) rfl (by kernel_rfl) (fun _ _ _ h => h) rfl ?h2 hH ?r2
 case h2 => (intro W h; (try dsimp only at h); go_simp; all_goals (with_reducible rfl))
 try simp only [zzA, zzB, zzC, Act.put, zzD, zzE, zzF]
 refine zzU (i := 3) (v := ?v3) rfl (by kernel_rfl) (fun _ _ _ h => h) rfl ?h3 hH ?r3
 case h3 => (intro W h; (try dsimp only at h); go_simp; all_goals (with_reducible rfl))
 try simp only [zzA, zzB, zzC, Act.put, zzD, zzE, zzF]
 refine zzU (i := 4) (v := ?v4) rfl (by kernel_rfl) (fun _ _ _ h => h) rfl ?h4 hH ?r4
 case h4 => (intro W h; (try dsimp only at h); go_simp; all_goals (with_reducible rfl))
 try simp only [zzA, zzB, zzC, Act.put, zzD, zzE, zzF]
 refine zzU (i := 5) (v := ?v5) rfl (by kernel_rfl) (fun _ _ _ h => h) rfl ?h5 hH ?r5
 case h5 => (intro W h; (try dsimp only at h); go_simp; all_goals (with_reducible rfl))
 try simp only [zzA, zzB, zzC, Act.put, zzD, zzE, zzF]
 refine zzU (i := 6) (v := ?v6) rfl (by kernel_rfl) (fun _ _ _ h => h) rfl ?h6 hH ?r6
 case h6 => (intro W h; (try dsimp only at h); go_simp; all_goals (with_reducible rfl))
 try simp only [zzA, zzB, zzC, Act.put, zzD, zzE, zzF]
 refine zzU (i := 7) (v := ?v7) rfl (by kernel_rfl) (fun _ _ _ h => h) rfl ?h7 hH ?r7
 case h7 => (intro W h; (try dsimp only at h); go_simp; all_goals (with_reducible rfl))
 try simp only [zzA, zzB, zzC, Act.put, zzD, zzE, zzF]
 refine zzU (i := 8) (v := ?v8) rfl (by kernel_rfl) (fun _ _ _ h => h) rfl ?h8 hH ?r8
 case h8 => (intro W h; (try dsimp only at h); go_simp; all_goals (with_reducible rfl))
 try simp only [zzA, zzB, zzC, Act.put, zzD, zzE, zzF]
 refine zzU (i := 9) (v := ?v9) rfl (by kernel_rfl) (fun _ _ _ h => h) rfl ?h9 hH ?r9
 case h9 => (intro W h; (try dsimp only at h); go_simp; all_goals (with_reducible rfl))
 try simp only [zzA, zzB, zzC, Act.put, zzD, zzE, zzF]
 refine zzU (i := 10) (v := ?v10) rfl (by kernel_rfl) (fun _ _ _ h => h) rfl ?h10 hH ?r10
 case h10 => (intro W h; (try dsimp only at h); go_simp; all_goals (with_reducible rfl))
 try simp only [zzA, zzB, zzC, Act.put, zzD, zzE, zzF]
 refine zzU (i := 11) (v := ?v11) rfl (by kernel_rfl) (fun _ _ _ h => h) rfl ?h11 hH ?r11
 case h11 => (intro W h; (try dsimp only at h); go_simp; all_goals (with_reducible rfl))
 try simp only [zzA, zzB, zzC, Act.put, zzD, zzE, zzF]
 refine wpTill_one (i := 12) (by kernel_rfl) rfl rfl (fun K hK => ?_)
 go_simp
 have hH2 := And.intro (And.intro (old_cell hH.1.1 (alD W1 (.cells #[.string ⟨m.1.toArray⟩, .string ⟨m.2.toArray⟩] 168))) (old_cell hH.1.2 (alD W1 (.cells #[.string ⟨m.1.toArray⟩, .string ⟨m.2.toArray⟩] 168)))) (And.intro (old_cell hH.2.1 (alD W1 (.cells #[.string ⟨m.1.toArray⟩, .string ⟨m.2.toArray⟩] 168))) (old_cell hH.2.2 (alD W1 (.cells #[.string ⟨m.1.toArray⟩, .string ⟨m.2.toArray⟩] 168))))
 refine hK.out _ _ (fun _ => hH2) ?_
 clear hK K hH; have hH := hH2; clear hH2
 try simp only [zzA, zzB, zzC, Act.put, zzD, zzE, zzF]
 refine wpTill_one (i := 13) (by kernel_rfl) rfl rfl (fun K hK => ?_)
 refine wp_appR _ _ 169 169 (by rfl) _ _ (by rfl) (by rfl) HRUN.out ?_
 have hH2 := And.intro v2 (And.intro v3 v0)
 refine hK.out _ _ (fun _ => hH2) ?_
 clear hK K hH; have hH := hH2; clear hH2
 try simp only [zzA, zzB, zzC, Act.put, zzD, zzE, zzF]
 refine wpTill_one (i := 14) (by kernel_rfl) rfl rfl (fun K hK => ?_)
 go_simp
 refine hK.out _ _ (fun _ => hH) ?_
 clear hK K
 try simp only [zzA, zzB, zzC, Act.put, zzD, zzE, zzF]
 refine wpTill_one (i := 15) (by kernel_rfl) rfl rfl (fun K hK => ?_)
 go_simp
 refine hK.out _ _ (fun _ => hH) ?_
 clear hK K
 try simp only [zzA, zzB, zzC, Act.put, zzD, zzE, zzF]
 refine wpTill_one (i := 16) (by kernel_rfl) rfl rfl (fun K hK => ?_)
 go_simp
 refine hK.out _ _ (fun h => absurd rfl h) ?_
 clear hK K
 try simp only [zzA, zzB, zzC, Act.put, zzD, zzE, zzF]
 refine wpTill_done (by kernel_rfl) ?_ _
 clear v0 v1 v2 v3 hH HRUN x0 x1 x2
 generalize V2.setCell ⟨l.b, 0, none⟩ (.slice a2 (nl + 1) c2) = W2 at *
 have HSB := Lib.hid (HS2.out.perm (T' := [⟨g, some ⟨gpb, gpo, none⟩, gc, some ⟨gkb, gko, none⟩, gkc⟩, ⟨.mk l.b F2 l.Fk (l.ps ++ [m]) l.ks, a2, c2, lka, lkc⟩, ⟨r, some ⟨rpb, rpo, none⟩, rc, rka, rkc⟩]) (show List.Perm ([_, _] ++ [_]) ([_] ++ [_, _]) from List.perm_append_comm) (List.Perm.refl _))
 have x0 : W2.cell? ⟨g.b, 0, none⟩ = some (.slice (some ⟨gpb, gpo, none⟩) g.ps.length gc) := HSB.out.hd.c0
 have x1 : W2.cell? ⟨r.b, 0, none⟩ = some (.slice (some ⟨rpb, rpo, none⟩) r.ps.length rc) := (HSB.out.top ⟨r, some ⟨rpb, rpo, none⟩, rc, rka, rkc⟩ (by simp)).c0
 have x2 := (Top.pairAt (g := r) (HSB.out.top ⟨r, some ⟨rpb, rpo, none⟩, rc, rka, rkc⟩ (by simp)) HZZ.out.1).1
 have x3 := (Top.pairAt (g := g) HSB.out.hd HMM.out).1
 have x4 := (Top.pairAt (g := g) HSB.out.hd HMM.out).2.1
 have HP3 := Lib.hid (Sx.setPair (z := z) (i := i) HSB.out HQ.out.1 HLN.out.2.2.2.2.2.2.1)
 have q0 := HP3.out.2.1
 have q1 : ((W2.setCell ⟨gpb, gpo + i * 2, none⟩ (.string ⟨z.1.toArray⟩)).setCell ⟨gpb, gpo + i * 2 + 1, none⟩ (.string ⟨z.2.toArray⟩)).cell? ⟨r.b, 0, none⟩ = some (.slice (some ⟨rpb, rpo, none⟩) r.ps.length rc) := (HP3.out.1 ⟨r, some ⟨rpb, rpo, none⟩, rc, rka, rkc⟩ (by simp)).c0
 have q2 := (Top.pairAt (g := r) (HP3.out.1 ⟨r, some ⟨rpb, rpo, none⟩, rc, rka, rkc⟩ (by simp)) HZZ.out.1).1
 rw [Nat.zero_mul, Nat.add_zero] at x2 q2
 rw [HLN.out.1] at x0 q0
 rw [HLN.out.2.2.2.1] at x1 q1
 obtain ⟨x30, x31⟩ := x3
 obtain ⟨x40, x41⟩ := x4
 go_wp2
 go_region_held3 (fun V => ((V.cell? ⟨rpb, rpo, none⟩ = some (.string ⟨z.1.toArray⟩) ∧ V.cell? ⟨rpb, rpo + 1, none⟩ = some (.string ⟨z.2.toArray⟩)) ∧ V.cell? ⟨g.b, 0, none⟩ = some (.slice (some ⟨gpb, gpo, none⟩) ng gc)) ∧ V.cell? ⟨r.b, 0, none⟩ = some (.slice (some ⟨rpb, rpo, none⟩) nr rc)) (first | exact ⟨⟨x2, x0⟩, x1⟩ | exact ⟨⟨q2, q0⟩, q1⟩) (fail)
 rename_i hHeld
 clear hHeld q0 q1 q2 x0 x1 x2 x30 x31 x40 x41
 have HS3 := Lib.hid (HP3.out.2.2.later (Below.refl _ _).drew)
 generalize ((W2.setCell ⟨gpb, gpo + i * 2, none⟩ (.string ⟨z.1.toArray⟩)).setCell ⟨gpb, gpo + i * 2 + 1, none⟩ (.string ⟨z.2.toArray⟩)).drew = W3 at *
 clear HP3
 have HSC := Lib.hid (HS3.out.perm (T' := [⟨r, some ⟨rpb, rpo, none⟩, rc, rka, rkc⟩, ⟨.mk g.b g.Fp g.Fk (C ++ z :: D) g.ks, some ⟨gpb, gpo, none⟩, gc, some ⟨gkb, gko, none⟩, gkc⟩, ⟨.mk l.b F2 l.Fk (l.ps ++ [m]) l.ks, a2, c2, lka, lkc⟩]) (show List.Perm ([_, _] ++ [_]) ([_] ++ [_, _]) from List.perm_append_comm) (List.Perm.refl _))
 have HD4 := Lib.hid (fun zz yy hz hy => Sx.delP (t := ⟨r, some ⟨rpb, rpo, none⟩, rc, rka, rkc⟩) HSC.out (C := []) (D := Y) (x := z) (i := 0) (n := nr) HZZ.out.2 rfl HLN.out.2.2.2.1 (by omega) zz yy hz hy)
 have x1 : W3.cell? ⟨r.b, 0, none⟩ = some (.slice (some ⟨rpb, rpo, none⟩) r.ps.length rc) := HSC.out.hd.c0
 rw [HLN.out.2.2.2.1] at x1
 have HLF := Lib.hid (fun W hc => leaf_raw r.b rka r.ks.length rkc true (by rw [HRK.out]; rfl) (by rw [HRK.out]; simp) W hc)
 go_wp2_with (first
  | (go_at_call 132; refine (HD4.out _ _ (by omega) (by omega)).mono ?_; rintro e V4 ⟨rfl, ⟨v0, v1⟩, _, _, HS4⟩)
  | (go_at_call 100; generalize V4.setCell ⟨r.b, 0, none⟩ (.slice (some ⟨rpb, rpo, none⟩) (nr - 1) rc) = W4 at *; refine (HLF.out _ HS4.out.hd.c1).mono ?_; rintro e W5 ⟨rfl, rfl⟩))
 go_end0
 refine ⟨rfl, ?_⟩
 have hs5 : Sx w (foot (h + 1) g) W4 [⟨.mk g.b g.Fp g.Fk (C ++ z :: D) g.ks, some ⟨gpb, gpo, none⟩, gc, some ⟨gkb, gko, none⟩, gkc⟩, ⟨.mk l.b F2 l.Fk (l.ps ++ [m]) l.ks, a2, c2, lka, lkc⟩, ⟨.mk r.b r.Fp r.Fk ([] ++ Y) r.ks, some ⟨rpb, rpo, none⟩, rc, rka, rkc⟩] (subsOf h (l.ks ++ r.ks) ++ (A ++ B).map fun k => (h, k)) := HS4.out.perm ((List.Perm.swap _ _ _).trans (List.Perm.cons _ (List.Perm.swap _ _ _))) (List.Perm.refl _)
 obtain ⟨g2, k1, k2, k3, k4, k5, k6, k7⟩ := Sx.two_done (l := l) (r := r) (A := A) (B := B) hs5 HQ.out.2.1 rfl rfl
 exact ⟨_, _, g2, k1, k2, k3, k4, rfl, HLK.out, rfl, HRK.out, k5, k6, k7⟩
set_option maxHeartbeats 8000000 in
set_option maxRecDepth 100000 in
theorem fromRight_node (h : Nat) (g l r : G) (A B : List G) (C D : List Pr) (m : Pr) (i : Nat) (hi : C.length = i) (hps : g.ps = C ++ m :: D) (hks : g.ks = A ++ l :: r :: B) (ha : A.length = C.length) (Y : List Pr) (z : Pr) (hrp : r.ps = z :: Y) (KY : List G) (y : G) (hrk : r.ks = y :: KY)
  (b1 : g.ps.length ≤ 1000) (b2 : g.ks.length ≤ 1000) (b3 : l.ps.length ≤ 1000) (b4 : r.ps.length ≤ 1000) (b5 : l.ks.length ≤ 1000) (b6 : r.ks.length ≤ 1000) (w : World) (hn : Nd w (h + 1) g) :
  Calls Tryz.prog 161 #[ptrV g.b, .int .i64 i] w (TwoTo w h g (C ++ z :: D) A B (l.ps ++ [m]) (l.ks ++ [y]) Y KY) := by
 subst hi
 obtain ⟨la, lc, lka, lkc, ra, rc, rka, rkc, ga, gc, gka, gkc, hS⟩ := Sx.ofSt (St.kid2 hn hks)
 have htr := hS.top ⟨r, ra, rc, rka, rkc⟩ (by simp)
 have htg := hS.top ⟨g, ga, gc, gka, gkc⟩ (by simp)
 have hmm : g.ps[C.length]? = some m := by rw [hps]; simp
 have hkl : g.ks[C.length]? = some l := by rw [hks, ← ha]; simp
 have hkr : g.ks[C.length + 1]? = some r := by rw [hks, ← ha, show A ++ l :: r :: B = (A ++ [l]) ++ r :: B by simp, show A.length + 1 = (A ++ [l]).length by simp]; simp
 obtain ⟨gpb, gpo, rfl, _⟩ := Top.pair (g := g) htg hmm
 obtain ⟨gkb, gko, rfl, _⟩ := Top.kid (g := g) htg hkl
 have hzz : r.ps[0]? = some z := by rw [hrp]; rfl
 obtain ⟨rpb, rpo, rfl, _⟩ := Top.pair (g := r) htr hzz
 have hyy : r.ks[0]? = some y := by rw [hrk]; rfl
 obtain ⟨rkb, rko, rfl, _⟩ := Top.kid (g := r) htr hyy
 have d0 : w.cell? ⟨g.b, 0, none⟩ = some (.slice (some ⟨gpb, gpo, none⟩) g.ps.length gc) := htg.c0
 have d1 : w.cell? ⟨g.b, 1, none⟩ = some (.slice (some ⟨gkb, gko, none⟩) g.ks.length gkc) := htg.c1
 have e0 := (Top.kidAt (g := g) htg hkl).1
 have e1 := (Top.kidAt (g := g) htg hkr).1
 have hgn : g.ks.length = A.length + 2 + B.length := by rw [hks]; simp; omega
 have hpn : g.ps.length = C.length + 1 + D.length := by rw [hps]; simp; omega
 have HS := Lib.hid hS
 have HMM := Lib.hid hmm
 have HQ := Lib.hid (And.intro hps (And.intro hks ha))
 have HZZ := Lib.hid (And.intro hzz hrp)
 have hnr0 : r.ps.length = Y.length + 1 := by rw [hrp]; rfl
 have HRK := Lib.hid (And.intro hrk hyy)
 have hnk0 : r.ks.length = KY.length + 1 := by rw [hrk]; rfl
 obtain ⟨i, hi⟩ : ∃ i, C.length = i := ⟨_, rfl⟩
 rw [hi] at e0 e1 HMM ⊢
 obtain ⟨ng, hng⟩ : ∃ n, g.ps.length = n := ⟨_, rfl⟩
 obtain ⟨nk, hnk⟩ : ∃ n, g.ks.length = n := ⟨_, rfl⟩
 obtain ⟨nl, hnl⟩ : ∃ n, l.ps.length = n := ⟨_, rfl⟩
 obtain ⟨nr, hnr⟩ : ∃ n, r.ps.length = n := ⟨_, rfl⟩
 obtain ⟨nlk, hnlk⟩ : ∃ n, l.ks.length = n := ⟨_, rfl⟩
 obtain ⟨nrk, hnrk⟩ : ∃ n, r.ks.length = n := ⟨_, rfl⟩
 have HLN := Lib.hid (And.intro hng (And.intro hnk (And.intro hnl (And.intro hnr (And.intro hnlk (And.intro hnrk (And.intro hi (And.intro hpn hgn))))))))
 rw [hng] at d0 b1 hpn
 rw [hnk] at d1 b2 hgn
 rw [hnl] at b3
 rw [hnr] at b4
 rw [hnlk] at b5
 rw [hnrk] at b6
 have hi0 : (0 : Int) ≤ (i : Int) := by omega
 have hi2 : (i : Int) + 1 < (nk : Int) := by omega
 have hi3 : (i : Int) < (ng : Int) := by omega
 have hi4 : (i : Int) < (nk : Int) := by omega
 have hi5 : (0 : Int) ≤ (i : Int) + 1 := by omega
 have hk1 : (nk : Int) ≤ 1000 := by omega
 have hg1 : (ng : Int) ≤ 1000 := by omega
 have hl1 : (nl : Int) ≤ 1000 := by omega
 have hr1 : (nr : Int) ≤ 1000 := by omega
 have hl2 : (nlk : Int) ≤ 1000 := by omega
 have hr2 : (nrk : Int) ≤ 1000 := by omega
 have hr3 : 0 < nr := by omega
 have hr4 : 0 < nrk := by omega
 clear hn hS htr htg hmm hkl hkr hps hks ha hng hnk hnl hnr hnlk hnrk hi hpn hgn hzz hrp hnr0 hrk hyy hnk0
 go_enter Tryz.func161, Tryz.ntmps161
 go_wp2
 go_quiet (fail)
 go_wp2
 obtain ⟨W1, hW1⟩ : ∃ W1, W1 = w.drewN nq := ⟨_, rfl⟩
 rw [← hW1]
 have HS1 : Hid (Sx w (foot (h + 1) g) W1 [⟨l, la, lc, lka, lkc⟩, ⟨r, some ⟨rpb, rpo, none⟩, rc, (some ⟨rkb, rko, none⟩), rkc⟩, ⟨g, some ⟨gpb, gpo, none⟩, gc, some ⟨gkb, gko, none⟩, gkc⟩] (subsOf h (l.ks ++ r.ks) ++ (A ++ B).map fun k => (h, k))) := Lib.hid (by rw [hW1]; exact HS.out.later (below_drewN w nq))
 clear hW1
 -- the node's pair, behind the first child's
 obtain ⟨a2, c2, F2, V2, hrun, ⟨hv0, hv1⟩, hV2, hS2⟩ := Sx.appP (t := ⟨l, la, lc, lka, lkc⟩) HS1.out (n := nl) (E := (W1.alloc (.cells #[.string ⟨m.1.toArray⟩, .string ⟨m.2.toArray⟩] 168)).drew) HLN.out.2.2.1 (alE W1 (.cells #[.string ⟨m.1.toArray⟩, .string ⟨m.2.toArray⟩] 168)) (L := [m]) (((Arg.made W1 [.string ⟨m.1.toArray⟩, .string ⟨m.2.toArray⟩] 168 (by intro u hu; simp only [List.mem_cons, List.not_mem_nil, or_false] at hu; rcases hu with rfl | rfl <;> rfl)).block (w' := (W1.alloc (.cells #[.string ⟨m.1.toArray⟩, .string ⟨m.2.toArray⟩] 168)).drew) rfl).rd (size := 2) (n := 1) rfl (by decide)) rfl (by omega)
 have HRUN := Lib.hid hrun
 have HS2 : Hid (Sx w (foot (h + 1) g) (V2.setCell ⟨l.b, 0, none⟩ (.slice a2 (nl + 1) c2)) [⟨.mk l.b F2 l.Fk (l.ps ++ [m]) l.ks, a2, c2, lka, lkc⟩, ⟨r, some ⟨rpb, rpo, none⟩, rc, (some ⟨rkb, rko, none⟩), rkc⟩, ⟨g, some ⟨gpb, gpo, none⟩, gc, some ⟨gkb, gko, none⟩, gkc⟩] (subsOf h (l.ks ++ r.ks) ++ (A ++ B).map fun k => (h, k))) := Lib.hid hS2
 have v0 : V2.cell? ⟨l.b, 0, none⟩ = some (.slice la nl lc) := hv0
 have v1 : V2.frozen? ⟨l.b, 0, none⟩ = false := hv1
 have v2 := (Top.pairAt (g := g) (hV2 ⟨g, some ⟨gpb, gpo, none⟩, gc, some ⟨gkb, gko, none⟩, gkc⟩ (by simp)) HMM.out).1
 have v3 : V2.cell? ⟨g.b, 0, none⟩ = some (.slice (some ⟨gpb, gpo, none⟩) g.ps.length gc) := (hV2 ⟨g, some ⟨gpb, gpo, none⟩, gc, some ⟨gkb, gko, none⟩, gkc⟩ (by simp)).c0
 have x0 : W1.cell? ⟨g.b, 0, none⟩ = some (.slice (some ⟨gpb, gpo, none⟩) g.ps.length gc) := (HS1.out.top ⟨g, some ⟨gpb, gpo, none⟩, gc, some ⟨gkb, gko, none⟩, gkc⟩ (by simp)).c0
 have x1 : W1.cell? ⟨l.b, 0, none⟩ = some (.slice la l.ps.length lc) := (HS1.out.top ⟨l, la, lc, lka, lkc⟩ (by simp)).c0
 have x2 := (Top.pairAt (g := g) (HS1.out.top ⟨g, some ⟨gpb, gpo, none⟩, gc, some ⟨gkb, gko, none⟩, gkc⟩ (by simp)) HMM.out).1
 rw [HLN.out.1] at x0 v3
 rw [HLN.out.2.2.1] at x1
 clear hrun hS2 hV2 hv0 hv1
 refine wp_region_till 16 (fun V => (V.cell? ⟨gpb, gpo + i * 2, none⟩ = some (.string ⟨m.1.toArray⟩) ∧ V.cell? ⟨gpb, gpo + i * 2 + 1, none⟩ = some (.string ⟨m.2.toArray⟩)) ∧ V.cell? ⟨g.b, 0, none⟩ = some (.slice (some ⟨gpb, gpo, none⟩) ng gc) ∧ V.cell? ⟨l.b, 0, none⟩ = some (.slice la nl lc)) (by kernel_rfl) (⟨x2, x0, x1⟩) (fun hH => ?_)
 refine zzU (i := 0) (v := ?v0) rfl (by kernel_rfl) (fun _ _ _ h => h) rfl ?h0 hH ?r0
 case h0 => (intro W h; (try dsimp only at h); go_simp; all_goals (with_reducible rfl))
 try simp only [zzA, zzC, Act.put, zzD, zzE, zzF]
 refine zzU (i := 1) (v := ?v1) rfl (by kernel_rfl) (fun _ _ _ h => h) rfl ?h1 hH ?r1
 case h1 => (intro W h; (try dsimp only at h); go_simp; all_goals (with_reducible rfl))
 try simp only [zzA, zzB, zzC, Act.put, zzD, zzE, zzF]
 refine zzU (i := 2) (v := ?v2) rfl (by kernel_rfl) (fun _ _ _ h => h) rfl ?h2 hH ?r2
 case h2 => (intro W h; (try dsimp only at h); go_simp; all_goals (with_reducible rfl))
 try simp only [zzA, zzB, zzC, Act.put, zzD, zzE, zzF]
 refine zzU (i := 3) (v := ?v3) rfl (by kernel_rfl) (fun _ _ _ h => h) rfl ?h3 hH ?r3
 case h3 => (intro W h; (try dsimp only at h); go_simp; all_goals (with_reducible rfl))
 try simp only [zzA, zzB, zzC, Act.put, zzD, zzE, zzF]
 refine zzU (i := 4) (v := ?v4) rfl (by kernel_rfl) (fun _ _ _ h => h) rfl ?h4 hH ?r4
 case h4 => (intro W h; (try dsimp only at h); go_simp; all_goals (with_reducible rfl))
 try simp only [zzA, zzB, zzC, Act.put, zzD, zzE, zzF]
 refine zzU (i := 5) (v := ?v5) rfl (by kernel_rfl) (fun _ _ _ h => h) rfl ?h5 hH ?r5
 case h5 => (intro W h; (try dsimp only at h); go_simp; all_goals (with_reducible rfl))
 try simp only [zzA, zzB, zzC, Act.put, zzD, zzE, zzF]
 refine zzU (i := 6) (v := ?v6) rfl (by kernel_rfl) (fun _ _ _ h => h) rfl ?h6 hH ?r6
 case h6 => (intro W h; (try dsimp only at h); go_simp; all_goals (with_reducible rfl))
 try simp only [zzA, zzB, zzC, Act.put, zzD, zzE, zzF]
 refine zzU (i := 7) (v := ?v7) rfl (by kernel_rfl) (fun _ _ _ h => h) rfl ?h7 hH ?r7
 case h7 => (intro W h; (try dsimp only at h); go_simp; all_goals (with_reducible rfl))
 try simp only [zzA, zzB, zzC, Act.put, zzD, zzE, zzF]
 refine zzU (i := 8) (v := ?v8) rfl (by kernel_rfl) (fun _ _ _ h => h) rfl ?h8 hH ?r8
 case h8 => (intro W h; (try dsimp only at h); go_simp; all_goals (with_reducible rfl))
 try simp only [zzA, zzB, zzC, Act.put, zzD, zzE, zzF]
 refine zzU (i := 9) (v := ?v9) rfl (by kernel_rfl) (fun _ _ _ h => h) rfl ?h9 hH ?r9
 case h9 => (intro W h; (try dsimp only at h); go_simp; all_goals (with_reducible rfl))
 try simp only [zzA, zzB, zzC, Act.put, zzD, zzE, zzF]
 refine zzU (i := 10) (v := ?v10) rfl (by kernel_rfl) (fun _ _ _ h => h) rfl ?h10 hH ?r10
 case h10 => (intro W h; (try dsimp only at h); go_simp; all_goals (with_reducible rfl))
 try simp only [zzA, zzB, zzC, Act.put, zzD, zzE, zzF]
 refine zzU (i := 11) (v := ?v11) rfl (by kernel_rfl) (fun _ _ _ h => h) rfl ?h11 hH ?r11
 case h11 => (intro W h; (try dsimp only at h); go_simp; all_goals (with_reducible rfl))
 try simp only [zzA, zzB, zzC, Act.put, zzD, zzE, zzF]
 refine wpTill_one (i := 12) (by kernel_rfl) rfl rfl (fun K hK => ?_)
 go_simp
 have hH2 := And.intro (And.intro (old_cell hH.1.1 (alD W1 (.cells #[.string ⟨m.1.toArray⟩, .string ⟨m.2.toArray⟩] 168))) (old_cell hH.1.2 (alD W1 (.cells #[.string ⟨m.1.toArray⟩, .string ⟨m.2.toArray⟩] 168)))) (And.intro (old_cell hH.2.1 (alD W1 (.cells #[.string ⟨m.1.toArray⟩, .string ⟨m.2.toArray⟩] 168))) (old_cell hH.2.2 (alD W1 (.cells #[.string ⟨m.1.toArray⟩, .string ⟨m.2.toArray⟩] 168))))
 refine hK.out _ _ (fun _ => hH2) ?_
 clear hK K hH; have hH := hH2; clear hH2
 try simp only [zzA, zzB, zzC, Act.put, zzD, zzE, zzF]
 refine wpTill_one (i := 13) (by kernel_rfl) rfl rfl (fun K hK => ?_)
 refine wp_appR _ _ 169 169 (by rfl) _ _ (by rfl) (by rfl) HRUN.out ?_
 have hH2 := And.intro v2 (And.intro v3 v0)
 refine hK.out _ _ (fun _ => hH2) ?_
 clear hK K hH; have hH := hH2; clear hH2
 try simp only [zzA, zzB, zzC, Act.put, zzD, zzE, zzF]
 refine wpTill_one (i := 14) (by kernel_rfl) rfl rfl (fun K hK => ?_)
 go_simp
 refine hK.out _ _ (fun _ => hH) ?_
 clear hK K
 try simp only [zzA, zzB, zzC, Act.put, zzD, zzE, zzF]
 refine wpTill_one (i := 15) (by kernel_rfl) rfl rfl (fun K hK => ?_)
 go_simp
 refine hK.out _ _ (fun _ => hH) ?_
 clear hK K
 try simp only [zzA, zzB, zzC, Act.put, zzD, zzE, zzF]
 refine wpTill_one (i := 16) (by kernel_rfl) rfl rfl (fun K hK => ?_)
 go_simp
 refine hK.out _ _ (fun h => absurd rfl h) ?_
 clear hK K
 try simp only [zzA, zzB, zzC, Act.put, zzD, zzE, zzF]
 refine wpTill_done (by kernel_rfl) ?_ _
 clear v0 v1 v2 v3 hH HRUN x0 x1 x2
 generalize V2.setCell ⟨l.b, 0, none⟩ (.slice a2 (nl + 1) c2) = W2 at *
 have HSB := Lib.hid (HS2.out.perm (T' := [⟨g, some ⟨gpb, gpo, none⟩, gc, some ⟨gkb, gko, none⟩, gkc⟩, ⟨.mk l.b F2 l.Fk (l.ps ++ [m]) l.ks, a2, c2, lka, lkc⟩, ⟨r, some ⟨rpb, rpo, none⟩, rc, (some ⟨rkb, rko, none⟩), rkc⟩]) (show List.Perm ([_, _] ++ [_]) ([_] ++ [_, _]) from List.perm_append_comm) (List.Perm.refl _))
 have x0 : W2.cell? ⟨g.b, 0, none⟩ = some (.slice (some ⟨gpb, gpo, none⟩) g.ps.length gc) := HSB.out.hd.c0
 have x1 : W2.cell? ⟨r.b, 0, none⟩ = some (.slice (some ⟨rpb, rpo, none⟩) r.ps.length rc) := (HSB.out.top ⟨r, some ⟨rpb, rpo, none⟩, rc, (some ⟨rkb, rko, none⟩), rkc⟩ (by simp)).c0
 have x2 := (Top.pairAt (g := r) (HSB.out.top ⟨r, some ⟨rpb, rpo, none⟩, rc, (some ⟨rkb, rko, none⟩), rkc⟩ (by simp)) HZZ.out.1).1
 have x3 := (Top.pairAt (g := g) HSB.out.hd HMM.out).1
 have x4 := (Top.pairAt (g := g) HSB.out.hd HMM.out).2.1
 have HP3 := Lib.hid (Sx.setPair (z := z) (i := i) HSB.out HQ.out.1 HLN.out.2.2.2.2.2.2.1)
 have q0 := HP3.out.2.1
 have q1 : ((W2.setCell ⟨gpb, gpo + i * 2, none⟩ (.string ⟨z.1.toArray⟩)).setCell ⟨gpb, gpo + i * 2 + 1, none⟩ (.string ⟨z.2.toArray⟩)).cell? ⟨r.b, 0, none⟩ = some (.slice (some ⟨rpb, rpo, none⟩) r.ps.length rc) := (HP3.out.1 ⟨r, some ⟨rpb, rpo, none⟩, rc, (some ⟨rkb, rko, none⟩), rkc⟩ (by simp)).c0
 have q2 := (Top.pairAt (g := r) (HP3.out.1 ⟨r, some ⟨rpb, rpo, none⟩, rc, (some ⟨rkb, rko, none⟩), rkc⟩ (by simp)) HZZ.out.1).1
 rw [Nat.zero_mul, Nat.add_zero] at x2 q2
 rw [HLN.out.1] at x0 q0
 rw [HLN.out.2.2.2.1] at x1 q1
 obtain ⟨x30, x31⟩ := x3
 obtain ⟨x40, x41⟩ := x4
 go_wp2
 go_region_held3 (fun V => ((V.cell? ⟨rpb, rpo, none⟩ = some (.string ⟨z.1.toArray⟩) ∧ V.cell? ⟨rpb, rpo + 1, none⟩ = some (.string ⟨z.2.toArray⟩)) ∧ V.cell? ⟨g.b, 0, none⟩ = some (.slice (some ⟨gpb, gpo, none⟩) ng gc)) ∧ V.cell? ⟨r.b, 0, none⟩ = some (.slice (some ⟨rpb, rpo, none⟩) nr rc)) (first | exact ⟨⟨x2, x0⟩, x1⟩ | exact ⟨⟨q2, q0⟩, q1⟩) (fail)
 rename_i hHeld
 clear hHeld q0 q1 q2 x0 x1 x2 x30 x31 x40 x41
 have HS3 := Lib.hid (HP3.out.2.2.later (Below.refl _ _).drew)
 generalize ((W2.setCell ⟨gpb, gpo + i * 2, none⟩ (.string ⟨z.1.toArray⟩)).setCell ⟨gpb, gpo + i * 2 + 1, none⟩ (.string ⟨z.2.toArray⟩)).drew = W3 at *
 clear HP3
 have HSC := Lib.hid (HS3.out.perm (T' := [⟨r, some ⟨rpb, rpo, none⟩, rc, (some ⟨rkb, rko, none⟩), rkc⟩, ⟨.mk g.b g.Fp g.Fk (C ++ z :: D) g.ks, some ⟨gpb, gpo, none⟩, gc, some ⟨gkb, gko, none⟩, gkc⟩, ⟨.mk l.b F2 l.Fk (l.ps ++ [m]) l.ks, a2, c2, lka, lkc⟩]) (show List.Perm ([_, _] ++ [_]) ([_] ++ [_, _]) from List.perm_append_comm) (List.Perm.refl _))
 have HD4 := Lib.hid (fun zz yy hz hy => Sx.delP (t := ⟨r, some ⟨rpb, rpo, none⟩, rc, (some ⟨rkb, rko, none⟩), rkc⟩) HSC.out (C := []) (D := Y) (x := z) (i := 0) (n := nr) HZZ.out.2 rfl HLN.out.2.2.2.1 (by omega) zz yy hz hy)
 have x1 : W3.cell? ⟨r.b, 0, none⟩ = some (.slice (some ⟨rpb, rpo, none⟩) r.ps.length rc) := HSC.out.hd.c0
 rw [HLN.out.2.2.2.1] at x1
 have HLF := Lib.hid (fun W hc => leaf_raw r.b (some ⟨rkb, rko, none⟩) r.ks.length rkc false (by rw [HRK.out.1]; simp) (by rw [HLN.out.2.2.2.2.2.1]; omega) W hc)
 go_wp2_with (first
  | (go_at_call 132; refine (HD4.out _ _ (by omega) (by omega)).mono ?_; rintro e V4 ⟨rfl, ⟨v0, v1⟩, _, _, HS4⟩)
  | (go_at_call 100; generalize V4.setCell ⟨r.b, 0, none⟩ (.slice (some ⟨rpb, rpo, none⟩) (nr - 1) rc) = W4 at *; refine (HLF.out _ HS4.out.hd.c1).mono ?_; rintro e W5 ⟨rfl, rfl⟩))
 clear v0 v1
 have HSD := Lib.hid (HS4.out.perm (T' := [⟨.mk l.b F2 l.Fk (l.ps ++ [m]) l.ks, a2, c2, lka, lkc⟩, ⟨.mk r.b r.Fp r.Fk ([] ++ Y) r.ks, some ⟨rpb, rpo, none⟩, rc, (some ⟨rkb, rko, none⟩), rkc⟩, ⟨.mk g.b g.Fp g.Fk (C ++ z :: D) g.ks, some ⟨gpb, gpo, none⟩, gc, some ⟨gkb, gko, none⟩, gkc⟩]) (show List.Perm ([_, _] ++ [_]) ([_] ++ [_, _]) from List.perm_append_comm) (List.Perm.refl _))
 obtain ⟨a6, c6, F6, V6, hrun, ⟨hv0, hv1⟩, hV6, hS6⟩ := Sx.appK (t := ⟨.mk l.b F2 l.Fk (l.ps ++ [m]) l.ks, a2, c2, lka, lkc⟩) HSD.out (n := nlk) (E := (W4.alloc (.cells #[ptrV y.b] 152)).drew) HLN.out.2.2.2.2.1 (alE W4 (.cells #[ptrV y.b] 152)) (L := [y]) (((Arg.made W4 [ptrV y.b] 152 (by intro u hu; simp only [List.mem_cons, List.not_mem_nil, or_false] at hu; subst hu; rfl)).block (w' := (W4.alloc (.cells #[ptrV y.b] 152)).drew) rfl).rd (size := 1) (n := 1) rfl (by decide)) rfl (by omega)
 have HRUN := Lib.hid hrun
 have HS6 : Hid (Sx w (foot (h + 1) g) (V6.setCell ⟨l.b, 1, none⟩ (.slice a6 (nlk + 1) c6)) [⟨.mk l.b F2 F6 (l.ps ++ [m]) (l.ks ++ [y]), a2, c2, a6, c6⟩, ⟨.mk r.b r.Fp r.Fk ([] ++ Y) r.ks, some ⟨rpb, rpo, none⟩, rc, (some ⟨rkb, rko, none⟩), rkc⟩, ⟨.mk g.b g.Fp g.Fk (C ++ z :: D) g.ks, some ⟨gpb, gpo, none⟩, gc, some ⟨gkb, gko, none⟩, gkc⟩] (subsOf h (l.ks ++ r.ks) ++ (A ++ B).map fun k => (h, k))) := Lib.hid hS6
 have v0 : V6.cell? ⟨l.b, 1, none⟩ = some (.slice lka nlk lkc) := hv0
 have v1 : V6.frozen? ⟨l.b, 1, none⟩ = false := hv1
 have v2 := (Top.kidAt (hV6 ⟨.mk r.b r.Fp r.Fk ([] ++ Y) r.ks, some ⟨rpb, rpo, none⟩, rc, (some ⟨rkb, rko, none⟩), rkc⟩ (by simp)) HRK.out.2).1
 have v3 : V6.cell? ⟨r.b, 1, none⟩ = some (.slice (some ⟨rkb, rko, none⟩) r.ks.length rkc) := (hV6 ⟨.mk r.b r.Fp r.Fk ([] ++ Y) r.ks, some ⟨rpb, rpo, none⟩, rc, (some ⟨rkb, rko, none⟩), rkc⟩ (by simp)).c1
 have x0 : W4.cell? ⟨l.b, 1, none⟩ = some (.slice lka l.ks.length lkc) := HSD.out.hd.c1
 have x1 : W4.cell? ⟨r.b, 1, none⟩ = some (.slice (some ⟨rkb, rko, none⟩) r.ks.length rkc) := (HSD.out.top ⟨.mk r.b r.Fp r.Fk ([] ++ Y) r.ks, some ⟨rpb, rpo, none⟩, rc, (some ⟨rkb, rko, none⟩), rkc⟩ (by simp)).c1
 have x2 := (Top.kidAt (HSD.out.top ⟨.mk r.b r.Fp r.Fk ([] ++ Y) r.ks, some ⟨rpb, rpo, none⟩, rc, (some ⟨rkb, rko, none⟩), rkc⟩ (by simp)) HRK.out.2).1
 rw [Nat.add_zero] at x2 v2
 rw [HLN.out.2.2.2.2.1] at x0
 rw [HLN.out.2.2.2.2.2.1] at x1 v3
 clear hrun hS6 hV6 hv0 hv1
 refine wp_region_till 15 (fun V => (V.cell? ⟨rkb, rko, none⟩ = some (ptrV y.b) ∧ V.cell? ⟨r.b, 1, none⟩ = some (.slice (some ⟨rkb, rko, none⟩) nrk rkc)) ∧ V.cell? ⟨l.b, 1, none⟩ = some (.slice lka nlk lkc)) (by kernel_rfl) (⟨⟨x2, x1⟩, x0⟩) (fun hH => ?_)
 refine zzU (i := 0) (v := ?vs0) rfl (by kernel_rfl) (fun _ _ _ h => h) rfl ?hs0 hH ?rs0
 case hs0 => (intro W h; (try dsimp only at h); go_simp; all_goals (with_reducible rfl))
 try simp only [zzA, zzC, Act.put, zzD, zzE, zzF]
 refine zzU (i := 1) (v := ?vs1) rfl (by kernel_rfl) (fun _ _ _ h => h) rfl ?hs1 hH ?rs1
 case hs1 => (intro W h; (try dsimp only at h); go_simp; all_goals (with_reducible rfl))
 try simp only [zzA, zzB, zzC, Act.put, zzD, zzE, zzF]
 refine zzU (i := 2) (v := ?vs2) rfl (by kernel_rfl) (fun _ _ _ h => h) rfl ?hs2 hH ?rs2
 case hs2 => (intro W h; (try dsimp only at h); go_simp; all_goals (with_reducible rfl))
 try simp only [zzA, zzB, zzC, Act.put, zzD, zzE, zzF]
 refine zzU (i := 3) (v := ?vs3) rfl (by kernel_rfl) (fun _ _ _ h => h) rfl ?hs3 hH ?rs3
 case hs3 => (intro W h; (try dsimp only at h); go_simp; all_goals (with_reducible rfl))
 try simp only [zzA, zzB, zzC, Act.put, zzD, zzE, zzF]
 refine zzU (i := 4) (v := ?vs4) rfl (by kernel_rfl) (fun _ _ _ h => h) rfl ?hs4 hH ?rs4
 case hs4 => (intro W h; (try dsimp only at h); go_simp; all_goals (with_reducible rfl))
 try simp only [zzA, zzB, zzC, Act.put, zzD, zzE, zzF]
 refine zzU (i := 5) (v := ?vs5) rfl (by kernel_rfl) (fun _ _ _ h => h) rfl ?hs5 hH ?rs5
 case hs5 => (intro W h; (try dsimp only at h); go_simp; all_goals (with_reducible rfl))
 try simp only [zzA, zzB, zzC, Act.put, zzD, zzE, zzF]
 refine zzU (i := 6) (v := ?vs6) rfl (by kernel_rfl) (fun _ _ _ h => h) rfl ?hs6 hH ?rs6
 case hs6 => (intro W h; (try dsimp only at h); go_simp; all_goals (with_reducible rfl))
 try simp only [zzA, zzB, zzC, Act.put, zzD, zzE, zzF]
 refine zzU (i := 7) (v := ?vs7) rfl (by kernel_rfl) (fun _ _ _ h => h) rfl ?hs7 hH ?rs7
 case hs7 => (intro W h; (try dsimp only at h); go_simp; all_goals (with_reducible rfl))
 try simp only [zzA, zzB, zzC, Act.put, zzD, zzE, zzF]
 refine zzU (i := 8) (v := ?vs8) rfl (by kernel_rfl) (fun _ _ _ h => h) rfl ?hs8 hH ?rs8
 case hs8 => (intro W h; (try dsimp only at h); go_simp; all_goals (with_reducible rfl))
 try simp only [zzA, zzB, zzC, Act.put, zzD, zzE, zzF]
 refine zzU (i := 9) (v := ?vs9) rfl (by kernel_rfl) (fun _ _ _ h => h) rfl ?hs9 hH ?rs9
 case hs9 => (intro W h; (try dsimp only at h); go_simp; all_goals (with_reducible rfl))
 try simp only [zzA, zzB, zzC, Act.put, zzD, zzE, zzF]
 refine zzU (i := 10) (v := ?vs10) rfl (by kernel_rfl) (fun _ _ _ h => h) rfl ?hs10 hH ?rs10
 case hs10 => (intro W h; (try dsimp only at h); go_simp; all_goals (with_reducible rfl))
 try simp only [zzA, zzB, zzC, Act.put, zzD, zzE, zzF]
 refine wpTill_one (i := 11) (by kernel_rfl) rfl rfl (fun K hK => ?_)
 go_simp
 have hH2 := And.intro (And.intro (old_cell hH.1.1 (alD W4 (.cells #[ptrV y.b] 152))) (old_cell hH.1.2 (alD W4 (.cells #[ptrV y.b] 152)))) (old_cell hH.2 (alD W4 (.cells #[ptrV y.b] 152)))
 refine hK.out _ _ (fun _ => hH2) ?_
 clear hK K hH; have hH := hH2; clear hH2
 try simp only [zzA, zzB, zzC, Act.put, zzD, zzE, zzF]
 refine wpTill_one (i := 12) (by kernel_rfl) rfl rfl (fun K hK => ?_)
 refine wp_appR _ _ 170 170 (by rfl) _ _ (by rfl) (by rfl) HRUN.out ?_
 have hH2 := And.intro (And.intro v2 v3) v0
 refine hK.out _ _ (fun _ => hH2) ?_
 clear hK K hH; have hH := hH2; clear hH2
 try simp only [zzA, zzB, zzC, Act.put, zzD, zzE, zzF]
 refine wpTill_one (i := 13) (by kernel_rfl) rfl rfl (fun K hK => ?_)
 go_simp
 refine hK.out _ _ (fun _ => hH) ?_
 clear hK K
 try simp only [zzA, zzB, zzC, Act.put, zzD, zzE, zzF]
 refine wpTill_one (i := 14) (by kernel_rfl) rfl rfl (fun K hK => ?_)
 go_simp
 refine hK.out _ _ (fun _ => hH) ?_
 clear hK K
 try simp only [zzA, zzB, zzC, Act.put, zzD, zzE, zzF]
 refine wpTill_one (i := 15) (by kernel_rfl) rfl rfl (fun K hK => ?_)
 go_simp
 refine hK.out _ _ (fun h => absurd rfl h) ?_
 clear hK K
 try simp only [zzA, zzB, zzC, Act.put, zzD, zzE, zzF]
 refine wpTill_done (by kernel_rfl) ?_ _
 clear v0 v1 v2 v3 hH HRUN x0 x1 x2
 generalize V6.setCell ⟨l.b, 1, none⟩ (.slice a6 (nlk + 1) c6) = W6 at *
 have HSE := Lib.hid (HS6.out.perm (T' := [⟨.mk r.b r.Fp r.Fk ([] ++ Y) r.ks, some ⟨rpb, rpo, none⟩, rc, (some ⟨rkb, rko, none⟩), rkc⟩, ⟨.mk l.b F2 F6 (l.ps ++ [m]) (l.ks ++ [y]), a2, c2, a6, c6⟩, ⟨.mk g.b g.Fp g.Fk (C ++ z :: D) g.ks, some ⟨gpb, gpo, none⟩, gc, some ⟨gkb, gko, none⟩, gkc⟩]) (List.Perm.swap _ _ _) (List.Perm.refl _))
 have HD7 := Lib.hid (fun zz yy hz hy => Sx.delK (t := ⟨.mk r.b r.Fp r.Fk ([] ++ Y) r.ks, some ⟨rpb, rpo, none⟩, rc, (some ⟨rkb, rko, none⟩), rkc⟩) HSE.out (A := []) (B := KY) (r := y) (i := 0) (n := nrk) HRK.out.1 rfl HLN.out.2.2.2.2.2.1 (by omega) zz yy hz hy)
 have x1 : W6.cell? ⟨r.b, 1, none⟩ = some (.slice (some ⟨rkb, rko, none⟩) r.ks.length rkc) := HSE.out.hd.c1
 rw [HLN.out.2.2.2.2.2.1] at x1
 go_wp2_with (go_at_call 171; refine (HD7.out _ _ (by omega) (by omega)).mono ?_; rintro e V7 ⟨rfl, ⟨u0, u1⟩, _, _, HS8⟩; have v0 : V7.cell? ⟨r.b, 1, none⟩ = some (.slice (some ⟨rkb, rko, none⟩) nrk rkc) := u0; have v1 : V7.frozen? ⟨r.b, 1, none⟩ = false := u1; clear u0 u1)
 go_end0
 refine ⟨rfl, ?_⟩
 have hs5 : Sx w (foot (h + 1) g) (V7.setCell ⟨r.b, 1, none⟩ (.slice (some ⟨rkb, rko, none⟩) (nrk - 1) rkc)) [⟨.mk g.b g.Fp g.Fk (C ++ z :: D) g.ks, some ⟨gpb, gpo, none⟩, gc, some ⟨gkb, gko, none⟩, gkc⟩, ⟨.mk l.b F2 F6 (l.ps ++ [m]) (l.ks ++ [y]), a2, c2, a6, c6⟩, ⟨.mk r.b r.Fp r.Fk ([] ++ Y) ([] ++ KY), some ⟨rpb, rpo, none⟩, rc, some ⟨rkb, rko, none⟩, rkc⟩] (subsOf h ((l.ks ++ [y]) ++ ([] ++ KY)) ++ (A ++ B).map fun k => (h, k)) := by
  have := HS8.out
  rw [HRK.out.1, show l.ks ++ y :: KY = (l.ks ++ [y]) ++ ([] ++ KY) by simp] at this
  exact this.perm ((show List.Perm ([_, _] ++ [_]) ([_] ++ [_, _]) from List.perm_append_comm).trans (List.Perm.cons _ (List.Perm.swap _ _ _))) (List.Perm.refl _)
 obtain ⟨g2, k1, k2, k3, k4, k5, k6, k7⟩ := Sx.two_done (l := l) (r := r) (A := A) (B := B) hs5 HQ.out.2.1 rfl rfl
 exact ⟨_, _, g2, k1, k2, k3, k4, rfl, rfl, rfl, rfl, k5, k6, k7⟩
end Go.Proofs.YtecnijnmgdfdhaaGreat
