/- Joined: Tree14. -/
import Derived.Test.YtecnijnmgdfdhaaGreatYTreeC
namespace Go.Proofs.YtecnijnmgdfdhaaGreat
open Go.RowKit Tr
set_option maxHeartbeats 8000000 in
set_option maxRecDepth 100000 in
theorem join_any (h : Nat) (g l r : G) (A B : List G) (C D : List Pr) (m : Pr) (i : Nat) (hi : C.length = i) (hps : g.ps = C ++ m :: D) (hks : g.ks = A ++ l :: r :: B) (ha : A.length = C.length) 
  (b1 : g.ps.length ≤ 1000) (b2 : g.ks.length ≤ 1000) (b3 : l.ps.length ≤ 1000) (b4 : r.ps.length ≤ 1000) (b5 : l.ks.length ≤ 1000) (b6 : r.ks.length ≤ 1000) (w : World) (hn : Nd w (h + 1) g) :
  Calls Tryz.prog 162 #[ptrV g.b, .int .i64 i] w (JoinTo w h g (C ++ D) A B (l.ps ++ m :: r.ps) (l.ks ++ r.ks)) := by
 subst hi
 obtain ⟨la, lc, lka, lkc, ra, rc, rka, rkc, ga, gc, gka, gkc, hS⟩ := Sx.ofSt (St.kid2 hn hks)
 have htr := hS.top ⟨r, ra, rc, rka, rkc⟩ (by simp)
 have htg := hS.top ⟨g, ga, gc, gka, gkc⟩ (by simp)
 have hmm : g.ps[C.length]? = some m := by rw [hps]; simp
 have hkl : g.ks[C.length]? = some l := by rw [hks, ← ha]; simp
 have hkr : g.ks[C.length + 1]? = some r := by rw [hks, ← ha, show A ++ l :: r :: B = (A ++ [l]) ++ r :: B by simp, show A.length + 1 = (A ++ [l]).length by simp]; simp
 obtain ⟨gpb, gpo, rfl, _⟩ := Top.pair (g := g) htg hmm
 obtain ⟨gkb, gko, rfl, _⟩ := Top.kid (g := g) htg hkl
 have d0 : w.cell? ⟨g.b, 0, none⟩ = some (.slice (some ⟨gpb, gpo, none⟩) g.ps.length gc) := htg.c0
 have d1 : w.cell? ⟨g.b, 1, none⟩ = some (.slice (some ⟨gkb, gko, none⟩) g.ks.length gkc) := htg.c1
 have e0 := (Top.kidAt (g := g) htg hkl).1
 have e1 := (Top.kidAt (g := g) htg hkr).1
 have hgn : g.ks.length = A.length + 2 + B.length := by rw [hks]; simp; omega
 have hpn : g.ps.length = C.length + 1 + D.length := by rw [hps]; simp; omega
 have HS := Lib.hid hS
 have HMM := Lib.hid hmm
 have HQ := Lib.hid (And.intro hps (And.intro hks ha))
 obtain ⟨i, hi⟩ : ∃ i, C.length = i := ⟨_, rfl⟩
 rw [hi] at e0 e1 HMM ⊢
 obtain ⟨ng, hng⟩ : ∃ n, g.ps.length = n := ⟨_, rfl⟩
 obtain ⟨nk, hnk⟩ : ∃ n, g.ks.length = n := ⟨_, rfl⟩
 obtain ⟨nl, hnl⟩ : ∃ n, l.ps.length = n := ⟨_, rfl⟩
 obtain ⟨nr, hnr⟩ : ∃ n, r.ps.length = n := ⟨_, rfl⟩
 obtain ⟨nlk, hnlk⟩ : ∃ n, l.ks.length = n := ⟨_, rfl⟩
 obtain ⟨nrk, hnrk⟩ : ∃ n, r.ks.length = n := ⟨_, rfl⟩
 have HLN := Lib.hid (And.intro hng (And.intro hnk (And.intro hnl (And.intro hnr (And.intro hnlk (And.intro hnrk (And.intro hi (And.intro hpn hgn))))))))
 rw [hng] at d0 b1 hpn
 rw [hnk] at d1 b2 hgn
 rw [hnl] at b3
 rw [hnr] at b4
 rw [hnlk] at b5
 rw [hnrk] at b6
 have hi0 : (0 : Int) ≤ (i : Int) := by omega
 have hi2 : (i : Int) + 1 < (nk : Int) := by omega
 have hi3 : (i : Int) < (ng : Int) := by omega
 have hi4 : (i : Int) < (nk : Int) := by omega
 have hi5 : (0 : Int) ≤ (i : Int) + 1 := by omega
 have hk1 : (nk : Int) ≤ 1000 := by omega
 have hg1 : (ng : Int) ≤ 1000 := by omega
 have hl1 : (nl : Int) ≤ 1000 := by omega
 have hr1 : (nr : Int) ≤ 1000 := by omega
 have hl2 : (nlk : Int) ≤ 1000 := by omega
 have hr2 : (nrk : Int) ≤ 1000 := by omega
 clear hn hS htr htg hmm hkl hkr hps hks ha hng hnk hnl hnr hnlk hnrk hi hpn hgn 
 go_enter Tryz.func162, Tryz.ntmps162
 go_wp2
 go_quiet (fail)
 go_wp2
 obtain ⟨W1, hW1⟩ : ∃ W1, W1 = w.drewN nq := ⟨_, rfl⟩
 rw [← hW1]
 have HS1 : Hid (Sx w (foot (h + 1) g) W1 [⟨l, la, lc, lka, lkc⟩, ⟨r, ra, rc, rka, rkc⟩, ⟨g, some ⟨gpb, gpo, none⟩, gc, some ⟨gkb, gko, none⟩, gkc⟩] (subsOf h (l.ks ++ r.ks) ++ (A ++ B).map fun k => (h, k))) := Lib.hid (by rw [hW1]; exact HS.out.later (below_drewN w nq))
 clear hW1
 -- the node's pair, behind the first child's
 obtain ⟨a2, c2, F2, V2, hrun, ⟨hv0, hv1⟩, hV2, hS2⟩ := Sx.appP (t := ⟨l, la, lc, lka, lkc⟩) HS1.out (n := nl) (E := (W1.alloc (.cells #[.string ⟨m.1.toArray⟩, .string ⟨m.2.toArray⟩] 168)).drew) HLN.out.2.2.1 (alE W1 (.cells #[.string ⟨m.1.toArray⟩, .string ⟨m.2.toArray⟩] 168)) (L := [m]) (((Arg.made W1 [.string ⟨m.1.toArray⟩, .string ⟨m.2.toArray⟩] 168 (by intro u hu; simp only [List.mem_cons, List.not_mem_nil, or_false] at hu; rcases hu with rfl | rfl <;> rfl)).block (w' := (W1.alloc (.cells #[.string ⟨m.1.toArray⟩, .string ⟨m.2.toArray⟩] 168)).drew) rfl).rd (size := 2) (n := 1) rfl (by decide)) rfl (by omega)
 have HRUN := Lib.hid hrun
 have HS2 : Hid (Sx w (foot (h + 1) g) (V2.setCell ⟨l.b, 0, none⟩ (.slice a2 (nl + 1) c2)) [⟨.mk l.b F2 l.Fk (l.ps ++ [m]) l.ks, a2, c2, lka, lkc⟩, ⟨r, ra, rc, rka, rkc⟩, ⟨g, some ⟨gpb, gpo, none⟩, gc, some ⟨gkb, gko, none⟩, gkc⟩] (subsOf h (l.ks ++ r.ks) ++ (A ++ B).map fun k => (h, k))) := Lib.hid hS2
 have v0 : V2.cell? ⟨l.b, 0, none⟩ = some (.slice la nl lc) := hv0
 have v1 : V2.frozen? ⟨l.b, 0, none⟩ = false := hv1
 have v2 := (Top.pairAt (g := g) (hV2 ⟨g, some ⟨gpb, gpo, none⟩, gc, some ⟨gkb, gko, none⟩, gkc⟩ (by simp)) HMM.out).1
 have v3 : V2.cell? ⟨g.b, 0, none⟩ = some (.slice (some ⟨gpb, gpo, none⟩) g.ps.length gc) := (hV2 ⟨g, some ⟨gpb, gpo, none⟩, gc, some ⟨gkb, gko, none⟩, gkc⟩ (by simp)).c0
 have x0 : W1.cell? ⟨g.b, 0, none⟩ = some (.slice (some ⟨gpb, gpo, none⟩) g.ps.length gc) := (HS1.out.top ⟨g, some ⟨gpb, gpo, none⟩, gc, some ⟨gkb, gko, none⟩, gkc⟩ (by simp)).c0
 have x1 : W1.cell? ⟨l.b, 0, none⟩ = some (.slice la l.ps.length lc) := (HS1.out.top ⟨l, la, lc, lka, lkc⟩ (by simp)).c0
 have x2 := (Top.pairAt (g := g) (HS1.out.top ⟨g, some ⟨gpb, gpo, none⟩, gc, some ⟨gkb, gko, none⟩, gkc⟩ (by simp)) HMM.out).1
 rw [HLN.out.1] at x0 v3
 rw [HLN.out.2.2.1] at x1
 clear hrun hS2 hV2 hv0 hv1
 refine wp_region_till 16 (fun V => (V.cell? ⟨gpb, gpo + i * 2, none⟩ = some (.string ⟨m.1.toArray⟩) ∧ V.cell? ⟨gpb, gpo + i * 2 + 1, none⟩ = some (.string ⟨m.2.toArray⟩)) ∧ V.cell? ⟨g.b, 0, none⟩ = some (.slice (some ⟨gpb, gpo, none⟩) ng gc) ∧ V.cell? ⟨l.b, 0, none⟩ = some (.slice la nl lc)) (by kernel_rfl) (⟨x2, x0, x1⟩) (fun hH => ?_)
 refine zzU (i := 0) (v := ?v0) rfl (by kernel_rfl) (fun _ _ _ h => h) rfl ?h0 hH ?r0
 case h0 => (intro W h; (try dsimp only at h); go_simp; all_goals (with_reducible rfl))
 try simp only [zzA, zzC, Act.put, zzD, zzE, zzF]
 refine zzU (i := 1) (v := ?v1) rfl (by kernel_rfl) (fun _ _ _ h => h) rfl ?h1 hH ?r1
 case h1 => (intro W h; (try dsimp only at h); go_simp; all_goals (with_reducible rfl))
 try simp only [zzA, zzB, zzC, Act.put, zzD, zzE, zzF]
 refine zzU (i := 2) (v := ?v2) rfl (by kernel_rfl) (fun _ _ _ h => h) rfl ?h2 hH ?r2
 case h2 => (intro W h; (try dsimp only at h); go_simp; all_goals (with_reducible rfl))
 try simp only [zzA, zzB, zzC, Act.put, zzD, zzE, zzF]
 refine zzU (i := 3) (v := ?v3) rfl (by kernel_rfl) (fun _ _ _ h => h) rfl ?h3 hH ?r3
 case h3 => (intro W h; (try dsimp only at h); go_simp; all_goals (with_reducible rfl))
 try simp only [zzA, zzB, zzC, Act.put, zzD, zzE, zzF]
 refine zzU (i := 4) (v := ?v4) rfl (by kernel_rfl) (fun _ _ _ h => h) rfl ?h4 hH ?r4
 case h4 => (intro W h; (try dsimp only at h); go_simp; all_goals (with_reducible rfl))
 try simp only [zzA, zzB, zzC, Act.put, zzD, zzE, zzF]
 refine zzU (i := 5) (v := ?v5) rfl (by kernel_rfl) (fun _ _ _ h => h) rfl ?h5 hH ?r5
 case h5 => (intro W h; (try dsimp only at h); go_simp; all_goals (with_reducible rfl))
 try simp only [zzA, zzB, zzC, Act.put, zzD, zzE, zzF]
 refine zzU (i := 6) (v := ?v6) rfl (by kernel_rfl) (fun _ _ _ h => h) rfl ?h6 hH ?r6
 case h6 => (intro W h; (try dsimp only at h); go_simp; all_goals (with_reducible rfl))
 try simp only [zzA, zzB, zzC, Act.put, zzD, zzE, zzF]
 refine zzU (i := 7) (v := ?v7) rfl (by kernel_rfl) (fun _ _ _ h => h) rfl ?h7 hH ?r7
 case h7 => (intro W h; (try dsimp only at h); go_simp; all_goals (with_reducible rfl))
 try simp only [zzA, zzB, zzC, Act.put, zzD, zzE, zzF]
 refine zzU (i := 8) (v := ?v8) rfl (by kernel_rfl) (fun _ _ _ h => h) rfl ?h8 hH ?r8
 case h8 => (intro W h; (try dsimp only at h); go_simp; all_goals (with_reducible rfl))
 try simp only [zzA, zzB, zzC, Act.put, zzD, zzE, zzF]
 refine zzU (i := 9) (v := ?v9) rfl (by kernel_rfl) (fun _ _ _ h => h) rfl ?h9 hH ?r9
 case h9 => (intro W h; (try dsimp only at h); go_simp; all_goals (with_reducible rfl))
 try simp only [zzA, zzB, zzC, Act.put, zzD, zzE, zzF]
 refine zzU (i := 10) (v := ?v10) rfl (by kernel_rfl) (fun _ _ _ h => h) rfl ?h10 hH ?r10
 case h10 => (intro W h; (try dsimp only at h); go_simp; all_goals (with_reducible rfl))
 try simp only [zzA, zzB, zzC, Act.put, zzD, zzE, zzF]
 refine zzU (i := 11) (v := ?v11) rfl (by kernel_rfl) (fun _ _ _ h => h) rfl ?h11 hH ?r11
 case h11 => (intro W h; (try dsimp only at h); go_simp; all_goals (with_reducible rfl))
 try simp only [zzA, zzB, zzC, Act.put, zzD, zzE, zzF]
 refine wpTill_one (i := 12) (by kernel_rfl) rfl rfl (fun K hK => ?_)
 go_simp
 have hH2 := And.intro (And.intro (old_cell hH.1.1 (alD W1 (.cells #[.string ⟨m.1.toArray⟩, .string ⟨m.2.toArray⟩] 168))) (old_cell hH.1.2 (alD W1 (.cells #[.string ⟨m.1.toArray⟩, .string ⟨m.2.toArray⟩] 168)))) (And.intro (old_cell hH.2.1 (alD W1 (.cells #[.string ⟨m.1.toArray⟩, .string ⟨m.2.toArray⟩] 168))) (old_cell hH.2.2 (alD W1 (.cells #[.string ⟨m.1.toArray⟩, .string ⟨m.2.toArray⟩] 168))))
 refine hK.out _ _ (fun _ => hH2) ?_
 clear hK K hH; have hH := hH2; clear hH2
 try simp only [zzA, zzB, zzC, Act.put, zzD, zzE, zzF]
 refine wpTill_one (i := 13) (by kernel_rfl) rfl rfl (fun K hK => ?_)
 refine wp_appR _ _ 169 169 (by rfl) _ _ (by rfl) (by rfl) HRUN.out ?_
 have hH2 := And.intro v2 (And.intro v3 v0)
 refine hK.out _ _ (fun _ => hH2) ?_
 clear hK K hH; have hH := hH2; clear hH2
 try simp only [zzA, zzB, zzC, Act.put, zzD, zzE, zzF]
 refine wpTill_one (i := 14) (by kernel_rfl) rfl rfl (fun K hK => ?_)
 go_simp
 refine hK.out _ _ (fun _ => hH) ?_
 clear hK K
 try simp only [zzA, zzB, zzC, Act.put, zzD, zzE, zzF]
 refine wpTill_one (i := 15) (by kernel_rfl) rfl rfl (fun K hK => ?_)
 go_simp
 refine hK.out _ _ (fun _ => hH) ?_
 clear hK K
 try simp only [zzA, zzB, zzC, Act.put, zzD, zzE, zzF]
 refine wpTill_one (i := 16) (by kernel_rfl) rfl rfl (fun K hK => ?_)
 go_simp
 refine hK.out _ _ (fun h => absurd rfl h) ?_
 clear hK K
 try simp only [zzA, zzB, zzC, Act.put, zzD, zzE, zzF]
 refine wpTill_done (by kernel_rfl) ?_ _
 clear v0 v1 v2 v3 hH HRUN x0 x1 x2
 generalize V2.setCell ⟨l.b, 0, none⟩ (.slice a2 (nl + 1) c2) = W2 at *
 go_wp2
 obtain ⟨a3, c3, F3, V3, hrun, ⟨hv0, hv1⟩, hV3, hS3⟩ := Sx.appP (t := ⟨.mk l.b F2 l.Fk (l.ps ++ [m]) l.ks, a2, c2, lka, lkc⟩) HS2.out (n := nl + 1) (E := W2.drew) (by show (l.ps ++ [m]).length = _; rw [List.length_append, HLN.out.2.2.1]; rfl) (Below.refl _ _).drew (a2 := ra) (m := nr) (c2 := rc) (L := r.ps) (by have := (HS2.out.top ⟨r, ra, rc, rka, rkc⟩ (by simp)).sp.rd; rw [← HLN.out.2.2.2.1]; exact this.later (Below.refl _ _).drew) HLN.out.2.2.2.1 (by omega)
 have HRUN := Lib.hid hrun
 have HS3 : Hid (Sx w (foot (h + 1) g) (V3.setCell ⟨l.b, 0, none⟩ (.slice a3 (nl + 1 + nr) c3)) [⟨.mk l.b F3 l.Fk (l.ps ++ [m] ++ r.ps) l.ks, a3, c3, lka, lkc⟩, ⟨r, ra, rc, rka, rkc⟩, ⟨g, some ⟨gpb, gpo, none⟩, gc, some ⟨gkb, gko, none⟩, gkc⟩] (subsOf h (l.ks ++ r.ks) ++ (A ++ B).map fun k => (h, k))) := Lib.hid hS3
 have v0 : V3.cell? ⟨l.b, 0, none⟩ = some (.slice a2 (nl + 1) c2) := hv0
 have v1 : V3.frozen? ⟨l.b, 0, none⟩ = false := hv1
 have v2 : V3.cell? ⟨r.b, 0, none⟩ = some (.slice ra r.ps.length rc) := (hV3 ⟨r, ra, rc, rka, rkc⟩ (by simp)).c0
 have x0 : W2.cell? ⟨l.b, 0, none⟩ = some (.slice a2 (l.ps ++ [m]).length c2) := HS2.out.hd.c0
 have x1 : W2.cell? ⟨r.b, 0, none⟩ = some (.slice ra r.ps.length rc) := (HS2.out.top ⟨r, ra, rc, rka, rkc⟩ (by simp)).c0
 rw [List.length_append, HLN.out.2.2.1, List.length_singleton] at x0
 rw [HLN.out.2.2.2.1] at x1 v2
 clear hrun hS3 hV3 hv0 hv1
 refine wp_region_till 12 (fun V => V.cell? ⟨l.b, 0, none⟩ = some (.slice a2 (nl + 1) c2) ∧ V.cell? ⟨r.b, 0, none⟩ = some (.slice ra nr rc)) (by kernel_rfl) (⟨x0, x1⟩) (fun hH => ?_)
 refine zzU (i := 0) (v := ?vb0) rfl (by kernel_rfl) (fun _ _ _ h => h) rfl ?hb0 hH ?rb0
 case hb0 => (intro W h; (try dsimp only at h); go_simp; all_goals (with_reducible rfl))
 try simp only [zzA, zzC, Act.put, zzD, zzE, zzF]
 refine zzU (i := 1) (v := ?vb1) rfl (by kernel_rfl) (fun _ _ _ h => h) rfl ?hb1 hH ?rb1
 case hb1 => (intro W h; (try dsimp only at h); go_simp; all_goals (with_reducible rfl))
 try simp only [zzA, zzB, zzC, Act.put, zzD, zzE, zzF]
 refine zzU (i := 2) (v := ?vb2) rfl (by kernel_rfl) (fun _ _ _ h => h) rfl ?hb2 hH ?rb2
 case hb2 => (intro W h; (try dsimp only at h); go_simp; all_goals (with_reducible rfl))
 try simp only [zzA, zzB, zzC, Act.put, zzD, zzE, zzF]
 refine zzU (i := 3) (v := ?vb3) rfl (by kernel_rfl) (fun _ _ _ h => h) rfl ?hb3 hH ?rb3
 case hb3 => (intro W h; (try dsimp only at h); go_simp; all_goals (with_reducible rfl))
 try simp only [zzA, zzB, zzC, Act.put, zzD, zzE, zzF]
 refine zzU (i := 4) (v := ?vb4) rfl (by kernel_rfl) (fun _ _ _ h => h) rfl ?hb4 hH ?rb4
 case hb4 => (intro W h; (try dsimp only at h); go_simp; all_goals (with_reducible rfl))
 try simp only [zzA, zzB, zzC, Act.put, zzD, zzE, zzF]
 refine zzU (i := 5) (v := ?vb5) rfl (by kernel_rfl) (fun _ _ _ h => h) rfl ?hb5 hH ?rb5
 case hb5 => (intro W h; (try dsimp only at h); go_simp; all_goals (with_reducible rfl))
 try simp only [zzA, zzB, zzC, Act.put, zzD, zzE, zzF]
 refine zzU (i := 6) (v := ?vb6) rfl (by kernel_rfl) (fun _ _ _ h => h) rfl ?hb6 hH ?rb6
 case hb6 => (intro W h; (try dsimp only at h); go_simp; all_goals (with_reducible rfl))
 try simp only [zzA, zzB, zzC, Act.put, zzD, zzE, zzF]
 refine zzU (i := 7) (v := ?vb7) rfl (by kernel_rfl) (fun _ _ _ h => h) rfl ?hb7 hH ?rb7
 case hb7 => (intro W h; (try dsimp only at h); go_simp; all_goals (with_reducible rfl))
 try simp only [zzA, zzB, zzC, Act.put, zzD, zzE, zzF]
 refine zzU (i := 8) (v := ?vb8) rfl (by kernel_rfl) (fun _ _ _ h => h) rfl ?hb8 hH ?rb8
 case hb8 => (intro W h; (try dsimp only at h); go_simp; all_goals (with_reducible rfl))
 try simp only [zzA, zzB, zzC, Act.put, zzD, zzE, zzF]
 refine wpTill_one (i := 9) (by kernel_rfl) rfl rfl (fun K hK => ?_)
 refine wp_appR _ _ 169 169 (by rfl) _ _ (by rfl) (by rfl) HRUN.out ?_
 have hH2 := And.intro v0 v2
 refine hK.out _ _ (fun _ => hH2) ?_
 clear hK K hH; have hH := hH2; clear hH2
 try simp only [zzA, zzB, zzC, Act.put, zzD, zzE, zzF]
 refine wpTill_one (i := 10) (by kernel_rfl) rfl rfl (fun K hK => ?_)
 go_simp
 refine hK.out _ _ (fun _ => hH) ?_
 clear hK K
 try simp only [zzA, zzB, zzC, Act.put, zzD, zzE, zzF]
 refine wpTill_one (i := 11) (by kernel_rfl) rfl rfl (fun K hK => ?_)
 go_simp
 refine hK.out _ _ (fun _ => hH) ?_
 clear hK K
 try simp only [zzA, zzB, zzC, Act.put, zzD, zzE, zzF]
 refine wpTill_one (i := 12) (by kernel_rfl) rfl rfl (fun K hK => ?_)
 go_simp
 refine hK.out _ _ (fun h => absurd rfl h) ?_
 clear hK K
 try simp only [zzA, zzB, zzC, Act.put, zzD, zzE, zzF]
 refine wpTill_done (by kernel_rfl) ?_ _
 clear v0 v1 v2 hH HRUN x0 x1
 generalize V3.setCell ⟨l.b, 0, none⟩ (.slice a3 (nl + 1 + nr) c3) = W3 at *
 go_wp2
 obtain ⟨a4, c4, F4, V4, hrun, ⟨hv0, hv1⟩, hV4, hS4⟩ := Sx.appK (t := ⟨.mk l.b F3 l.Fk (l.ps ++ [m] ++ r.ps) l.ks, a3, c3, lka, lkc⟩) HS3.out (n := nlk) (E := W3.drew) HLN.out.2.2.2.2.1 (Below.refl _ _).drew (a2 := rka) (m := nrk) (c2 := rkc) (L := r.ks) (by have := (HS3.out.top ⟨r, ra, rc, rka, rkc⟩ (by simp)).sk.rd; rw [← HLN.out.2.2.2.2.2.1]; exact this.later (Below.refl _ _).drew) HLN.out.2.2.2.2.2.1 (by omega)
 have HRUN := Lib.hid hrun
 have HS4 : Hid (Sx w (foot (h + 1) g) (V4.setCell ⟨l.b, 1, none⟩ (.slice a4 (nlk + nrk) c4)) [⟨.mk l.b F3 F4 (l.ps ++ [m] ++ r.ps) (l.ks ++ r.ks), a3, c3, a4, c4⟩, ⟨r, ra, rc, rka, rkc⟩, ⟨g, some ⟨gpb, gpo, none⟩, gc, some ⟨gkb, gko, none⟩, gkc⟩] (subsOf h (l.ks ++ r.ks) ++ (A ++ B).map fun k => (h, k))) := Lib.hid hS4
 have v0 : V4.cell? ⟨l.b, 1, none⟩ = some (.slice lka nlk lkc) := hv0
 have v1 : V4.frozen? ⟨l.b, 1, none⟩ = false := hv1
 have v2 : V4.cell? ⟨r.b, 1, none⟩ = some (.slice rka r.ks.length rkc) := (hV4 ⟨r, ra, rc, rka, rkc⟩ (by simp)).c1
 have x0 : W3.cell? ⟨l.b, 1, none⟩ = some (.slice lka l.ks.length lkc) := HS3.out.hd.c1
 have x1 : W3.cell? ⟨r.b, 1, none⟩ = some (.slice rka r.ks.length rkc) := (HS3.out.top ⟨r, ra, rc, rka, rkc⟩ (by simp)).c1
 rw [HLN.out.2.2.2.2.1] at x0
 rw [HLN.out.2.2.2.2.2.1] at x1 v2
 clear hrun hS4 hV4 hv0 hv1
 refine wp_region_till 12 (fun V => V.cell? ⟨l.b, 1, none⟩ = some (.slice lka nlk lkc) ∧ V.cell? ⟨r.b, 1, none⟩ = some (.slice rka nrk rkc)) (by kernel_rfl) (⟨x0, x1⟩) (fun hH => ?_)
 refine zzU (i := 0) (v := ?vc0) rfl (by kernel_rfl) (fun _ _ _ h => h) rfl ?hc0 hH ?rc0
 case hc0 => (intro W h; (try dsimp only at h); go_simp; all_goals (with_reducible rfl))
 try simp only [zzA, zzC, Act.put, zzD, zzE, zzF]
 refine zzU (i := 1) (v := ?vc1) rfl (by kernel_rfl) (fun _ _ _ h => h) rfl ?hc1 hH ?rc1
 case hc1 => (intro W h; (try dsimp only at h); go_simp; all_goals (with_reducible rfl))
 try simp only [zzA, zzB, zzC, Act.put, zzD, zzE, zzF]
 refine zzU (i := 2) (v := ?vc2) rfl (by kernel_rfl) (fun _ _ _ h => h) rfl ?hc2 hH ?rc2
 case hc2 => (intro W h; (try dsimp only at h); go_simp; all_goals (with_reducible rfl))
 try simp only [zzA, zzB, zzC, Act.put, zzD, zzE, zzF]
 refine zzU (i := 3) (v := ?vc3) rfl (by kernel_rfl) (fun _ _ _ h => h) rfl ?hc3 hH ?rc3
 case hc3 => (intro W h; (try dsimp only at h); go_simp; all_goals (with_reducible rfl))
 try simp only [zzA, zzB, zzC, Act.put, zzD, zzE, zzF]
 refine zzU (i := 4) (v := ?vc4) rfl (by kernel_rfl) (fun _ _ _ h => h) rfl ?hc4 hH ?rc4
 case hc4 => (intro W h; (try dsimp only at h); go_simp; all_goals (with_reducible rfl))
 try simp only [zzA, zzB, zzC, Act.put, zzD, zzE, zzF]
 refine zzU (i := 5) (v := ?vc5) rfl (by kernel_rfl) (fun _ _ _ h => h) rfl ?hc5 hH ?rc5
 case hc5 => (intro W h; (try dsimp only at h); go_simp; all_goals (with_reducible rfl))
 try simp only [zzA, zzB, zzC, Act.put, zzD, zzE, zzF]
 refine zzU (i := 6) (v := ?vc6) rfl (by kernel_rfl) (fun _ _ _ h => h) rfl ?hc6 hH ?rc6
 case hc6 => (intro W h; (try dsimp only at h); go_simp; all_goals (with_reducible rfl))
 try simp only [zzA, zzB, zzC, Act.put, zzD, zzE, zzF]
 refine zzU (i := 7) (v := ?vc7) rfl (by kernel_rfl) (fun _ _ _ h => h) rfl ?hc7 hH ?rc7
 case hc7 => (intro W h; (try dsimp only at h); go_simp; all_goals (with_reducible rfl))
 try simp only [zzA, zzB, zzC, Act.put, zzD, zzE, zzF]
 refine zzU (i := 8) (v := ?vc8) rfl (by kernel_rfl) (fun _ _ _ h => h) rfl ?hc8 hH ?rc8
 case hc8 => (intro W h; (try dsimp only at h); go_simp; all_goals (with_reducible rfl))
 try simp only [zzA, zzB, zzC, Act.put, zzD, zzE, zzF]
 refine wpTill_one (i := 9) (by kernel_rfl) rfl rfl (fun K hK => ?_)
 refine wp_appR _ _ 170 170 (by rfl) _ _ (by rfl) (by rfl) HRUN.out ?_
 have hH2 := And.intro v0 v2
 refine hK.out _ _ (fun _ => hH2) ?_
 clear hK K hH; have hH := hH2; clear hH2
 try simp only [zzA, zzB, zzC, Act.put, zzD, zzE, zzF]
 refine wpTill_one (i := 10) (by kernel_rfl) rfl rfl (fun K hK => ?_)
 go_simp
 refine hK.out _ _ (fun _ => hH) ?_
 clear hK K
 try simp only [zzA, zzB, zzC, Act.put, zzD, zzE, zzF]
 refine wpTill_one (i := 11) (by kernel_rfl) rfl rfl (fun K hK => ?_)
 go_simp
 refine hK.out _ _ (fun _ => hH) ?_
 clear hK K
 try simp only [zzA, zzB, zzC, Act.put, zzD, zzE, zzF]
 refine wpTill_one (i := 12) (by kernel_rfl) rfl rfl (fun K hK => ?_)
 go_simp
 refine hK.out _ _ (fun h => absurd rfl h) ?_
 clear hK K
 try simp only [zzA, zzB, zzC, Act.put, zzD, zzE, zzF]
 refine wpTill_done (by kernel_rfl) ?_ _
 clear v0 v1 v2 hH HRUN x0 x1
 generalize V4.setCell ⟨l.b, 1, none⟩ (.slice a4 (nlk + nrk) c4) = W4 at *
 have HSE := Lib.hid (HS4.out.perm (T' := [⟨g, some ⟨gpb, gpo, none⟩, gc, some ⟨gkb, gko, none⟩, gkc⟩, ⟨.mk l.b F3 F4 (l.ps ++ [m] ++ r.ps) (l.ks ++ r.ks), a3, c3, a4, c4⟩, ⟨r, ra, rc, rka, rkc⟩]) (show List.Perm ([_, _] ++ [_]) ([_] ++ [_, _]) from List.perm_append_comm) (List.Perm.refl _))
 have HD5 := Lib.hid (fun zz yy hz hy => Sx.delP (t := ⟨g, some ⟨gpb, gpo, none⟩, gc, some ⟨gkb, gko, none⟩, gkc⟩) HSE.out (C := C) (D := D) (x := m) (i := i) (n := ng) HQ.out.1 HLN.out.2.2.2.2.2.2.1 HLN.out.1 (by omega) zz yy hz hy)
 have x0 : W4.cell? ⟨g.b, 0, none⟩ = some (.slice (some ⟨gpb, gpo, none⟩) g.ps.length gc) := HSE.out.hd.c0
 rw [HLN.out.1] at x0
 have HD6 : Hid (∀ (V5 : World), Sx w (foot (h + 1) g) V5 [⟨.mk g.b g.Fp g.Fk (C ++ D) g.ks, some ⟨gpb, gpo, none⟩, gc, some ⟨gkb, gko, none⟩, gkc⟩, ⟨.mk l.b F3 F4 (l.ps ++ [m] ++ r.ps) (l.ks ++ r.ks), a3, c3, a4, c4⟩, ⟨r, ra, rc, rka, rkc⟩] (subsOf h (l.ks ++ r.ks) ++ (A ++ B).map fun k => (h, k)) → ∀ (zz yy : Int), zz = (i : Int) + 1 → yy = (i : Int) + 1 + 1 → Calls Tryz.prog 171 #[.slice (some ⟨gkb, gko, none⟩) nk gkc, .int .i64 zz, .int .i64 yy] V5 fun e V => e = .returned (.slice (some ⟨gkb, gko, none⟩) (nk - 1) gkc) ∧ (V.cell? ⟨g.b, 1, none⟩ = some (.slice (some ⟨gkb, gko, none⟩) nk gkc) ∧ V.frozen? ⟨g.b, 1, none⟩ = false) ∧ Hid (JoinTo w h g (C ++ D) A B (l.ps ++ m :: r.ps) (l.ks ++ r.ks) (.returned (.tuple #[])) (V.setCell ⟨g.b, 1, none⟩ (.slice (some ⟨gkb, gko, none⟩) (nk - 1) gkc)))) := Lib.hid (fun V5 hs zz yy hz hy => by
  refine (Sx.delK (t := ⟨.mk g.b g.Fp g.Fk (C ++ D) g.ks, some ⟨gpb, gpo, none⟩, gc, some ⟨gkb, gko, none⟩, gkc⟩) hs (A := A ++ [l]) (B := B) (r := r) (i := i + 1) (n := nk) (by show g.ks = _; rw [HQ.out.2.1]; simp) (by rw [List.length_append, HQ.out.2.2, HLN.out.2.2.2.2.2.2.1]; rfl) HLN.out.2.1 (by omega) zz yy (by omega) (by omega)).mono ?_
  rintro e V ⟨rfl, ⟨u0, u1⟩, _, _, hs8⟩
  have hs9 := ((hs8.out.perm (T' := [⟨r, ra, rc, rka, rkc⟩, ⟨.mk g.b g.Fp g.Fk (C ++ D) (A ++ [l] ++ B), some ⟨gpb, gpo, none⟩, gc, some ⟨gkb, gko, none⟩, gkc⟩, ⟨.mk l.b F3 F4 (l.ps ++ [m] ++ r.ps) (l.ks ++ r.ks), a3, c3, a4, c4⟩]) (show List.Perm ([_, _] ++ [_]) ([_] ++ [_, _]) from List.perm_append_comm) (List.Perm.refl _)).drop)
  obtain ⟨g2, k1, k2, k3, k5, k6, k7⟩ := Sx.one_done (l := l) (A := A) (B := B) hs9 (by show A ++ [l] ++ B = _; simp) rfl
  exact ⟨rfl, ⟨u0, u1⟩, Lib.hid ⟨rfl, _, g2, k1, k2, k3, by show l.ps ++ [m] ++ r.ps = _; simp, rfl, k5, k6, k7⟩⟩)
 go_wp2_with (first
  | (go_at_call 132; refine (HD5.out _ _ (by omega) (by omega)).mono ?_; rintro e V5 ⟨rfl, ⟨u0, u1⟩, _, _, HS7⟩; have v0 : V5.cell? ⟨g.b, 0, none⟩ = some (.slice (some ⟨gpb, gpo, none⟩) ng gc) := u0; have v1 : V5.frozen? ⟨g.b, 0, none⟩ = false := u1; clear u0 u1; have v2 : (V5.setCell ⟨g.b, 0, none⟩ (.slice (some ⟨gpb, gpo, none⟩) (ng - 1) gc)).cell? ⟨g.b, 1, none⟩ = some (.slice (some ⟨gkb, gko, none⟩) g.ks.length gkc) := HS7.out.hd.c1; rw [HLN.out.2.1] at v2)
  | (go_at_call 171; refine (HD6.out _ HS7.out _ _ (by omega) (by omega)).mono ?_; rintro e V6 ⟨rfl, ⟨w0, w1⟩, HE⟩))
 go_end0
 exact HE.out
end Go.Proofs.YtecnijnmgdfdhaaGreat
