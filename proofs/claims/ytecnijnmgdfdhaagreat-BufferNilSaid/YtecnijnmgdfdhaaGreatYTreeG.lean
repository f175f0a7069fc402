/- Joined: Tree35, Tree36. -/
import Derived.Test.YtecnijnmgdfdhaaGreatYTreeE
import Derived.Test.YtecnijnmgdfdhaaGreatYTreeC
import Derived.Test.YtecnijnmgdfdhaaGreatYTr
import Derived.Test.YtecnijnmgdfdhaaGreatYSep
/- A tree's copy: a node's copy; the tree's. -/
namespace Go.Proofs.YtecnijnmgdfdhaaGreat
open Go.RowKit Tr
open Ky (less)
theorem Sx.addU {w0 W V : World} {F : Foot} {T : List Nx} {U : List (Nat × G)} {n : Nat} {k : G} (h : Sx w0 F W T U) (hb : Below W.heap.size W V) (hn : Nd V n k) (hf : ∀ b o, foot n k b o → W.heap.size ≤ b) : Sx w0 F V T ((n, k) :: U) := by
  have hl := h.later hb
  have hw : w0.heap.size ≤ W.heap.size := h.st.fr.size
  refine ⟨⟨hl.st.top, fun u hu => ?_, ?_, hl.st.fr, fun f hf' b o hbo => ?_⟩, hl.top⟩
  · rcases List.mem_cons.1 hu with rfl | hu
    · exact hn
    · exact hl.st.sub u hu
  · have hp : ((T.map (·.g)).map topF ++ ((n, k) :: U).map uF).Perm (uF (n, k) :: ((T.map (·.g)).map topF ++ U.map uF)) := by
      rw [List.map_cons]; exact List.perm_middle
    refine (hp.pairwise_iff Apart.symm').2 (List.pairwise_cons.2 ⟨fun f hf' b o h1 h2 => ?_, hl.st.sep⟩)
    have h3 : W.heap.size ≤ b := hf b o h1
    have h4 := h.st.lies f hf' b o h2
    omega
  · have hp : ((T.map (·.g)).map topF ++ ((n, k) :: U).map uF).Perm (uF (n, k) :: ((T.map (·.g)).map topF ++ U.map uF)) := by
      rw [List.map_cons]; exact List.perm_middle
    rcases List.mem_cons.1 (hp.mem_iff.1 hf') with rfl | hf'
    · exact .inr (Nat.le_trans hw (hf b o hbo))
    · exact hl.st.ins f hf' b o hbo
theorem Sx.first {w V : World} {F : Foot} {a : Option Addr} {c : Nat} {ps : List Pr} {t : TypeId} (hs : Sl V 2 F a ps.length c (pairsV ps)) (hl : Lies V F) (hF : ∀ k x, F k x → w.heap.size ≤ k) (hb : Below w.heap.size w V) :
    Sx w noCells (V.alloc (.cells #[.slice a ps.length c, .slice none 0 0] t)) [⟨.mk V.heap.size F noCells ps [], a, c, none, 0⟩] [] := by
  have hT : Top (V.alloc (.cells #[.slice a ps.length c, .slice none 0 0] t)) (.mk V.heap.size F noCells ps []) a c none 0 :=
    ⟨by simp [G.b, G.ps], by simp [G.b, G.ks], by simp [G.b], by simp [G.b], hs.laid _, Sl.none_ _ 1, fun _ _ _ h => h, fun o h => Nat.lt_irrefl _ (hl _ _ h), fun _ h => h, hl.laid _, fun _ _ h => h.elim⟩
  refine ⟨⟨fun t ht => ?_, (fun u hu => by cases hu), (by simp), (Fr.ofBelow (hb.trans ((al1 V _).mono hb.size)) noCells), fun f hf b o hbo => ?_⟩, fun t ht => ?_⟩
  · simp at ht; subst ht; exact ⟨_, _, _, _, hT⟩
  · simp at hf; subst hf
    rcases hbo with h | h | h
    · refine .inr ?_
      have : b = V.heap.size := h
      have := hb.size
      omega
    · exact .inr (hF b o h)
    · exact h.elim
  · simp at ht; subst ht; exact hT
/-- What a node's copy answers. -/
def CopyTo (w : World) (h : Nat) (g : G) (e : Ending) (V : World) : Prop := ∃ g', e = .returned (ptrV g'.b) ∧ Nd V h g' ∧ Like h g g' ∧ Below w.heap.size w V ∧ ∀ b x, foot h g' b x → w.heap.size ≤ b
set_option maxHeartbeats 8000000 in
set_option maxRecDepth 100000 in
theorem copy_step (o : Nat) (ho : o ≤ 16) (h : Nat) (IH : ∀ h', h = h' + 1 → ∀ (k : G) (w : World), Nd w h' k → Tr.Kids o h' k → k.ps.length + 1 ≤ 2 * o → Calls Tryz.prog 92 #[ptrV k.b] w (CopyTo w h' k))
    (g : G) (w : World) (hn : Nd w h g) (hk : Tr.Kids o h g) (hp : g.ps.length + 1 ≤ 2 * o) : Calls Tryz.prog 92 #[ptrV g.b] w (CopyTo w h g) := by
  obtain ⟨pa, pc, ka, kc, ht⟩ := hn.top
  have hm : g.ks.length ≤ 33 := by
    cases h with
    | zero => rw [show g.ks = [] from hk]; simp
    | succ h => have := hk.1; omega
  have d0 : w.cell? ⟨g.b, 0, none⟩ = some (.slice pa g.ps.length pc) := ht.c0
  have d1 := ht.c1
  have HCl := Lib.hid (cloneP_any g.Fp pa pc g.ps (by omega) w ht.sp)
  have HT := Lib.hid ht
  have HN := Lib.hid (And.intro hn (And.intro hk hp))
  have HI := Lib.hid IH
  obtain ⟨m, hmm⟩ : ∃ m, g.ks.length = m := ⟨_, rfl⟩
  have HM := Lib.hid hmm
  rw [hmm] at d1 hm
  clear ht hn hk hp IH hmm
  go_enter Tryz.func92, Tryz.ntmps92
  go_wp2_with (go_at_call 125; refine HCl.out.mono ?_; rintro e V1 ⟨a1, c1, rfl, hL⟩; have H1 := Lib.hid hL; have e1 := old_cell (old_cell d1 hL.low) (al1 V1 (.cells #[.slice a1 g.ps.length c1, .slice none 0 0] 172)); clear hL)
  obtain ⟨Fp, l1, l2, l3, l4⟩ := H1.out
  have HS0 := Lib.hid (Sx.first (t := 172) l1 l2 l3 l4)
  clear l1 l2 l3 l4 d0 d1 e1
  obtain ⟨c, hc⟩ : ∃ c, V1.heap.size = c := ⟨_, rfl⟩
  rw [hc] at HS0 ⊢
  generalize V1.alloc (.cells #[.slice a1 g.ps.length c1, .slice none 0 0] 172) = V2 at *
  clear hc
  go_loopw [18] (fun i wr => ∃ (j : Nat) (Fk : Foot) (Qs : List G) (ka' : Option Addr) (kc' : Nat), j ≤ m ∧ i = .int .i64 j ∧ Hid (Qs.length = j ∧ LikeL (Like (h - 1)) (g.ks.take j) Qs ∧ Sx w noCells wr [⟨.mk c Fp Fk g.ps Qs, a1, c1, ka', kc'⟩] (subsOf h Qs))) (fun i _ => m - (intOf i).toNat)
  case atStart => exact ⟨0, noCells, [], none, 0, by omega, rfl, Lib.hid ⟨rfl, trivial, by cases h <;> exact HS0.out⟩⟩
  case round =>
    obtain ⟨j, Fk, Qs, ka', kc', hj, rfl, HJ⟩ := hrel
    have k0 : (0 : Int) ≤ (j : Int) := by omega
    by_cases hlt : j < m
    · have k1 : (j : Int) < (m : Int) := by omega
      obtain ⟨k, hx⟩ : ∃ k, g.ks[j]? = some k := ⟨_, List.getElem?_eq_getElem (by rw [HM.out]; exact hlt)⟩
      have hh : ∃ h', h = h' + 1 := by
        cases h with
        | zero => have := HN.out.2.1; rw [show g.ks = [] from this] at hx; simp at hx
        | succ h => exact ⟨h, rfl⟩
      obtain ⟨h', rfl⟩ := hh
      have hbw : Below w.heap.size w wr := HJ.out.2.2.st.fr.below (Nat.le_refl _) (fun _ _ h => h.elim)
      obtain ⟨kb, ko, rfl, _⟩ := Top.kid (g := g) HT.out hx
      have z0 := old_cell (Top.kidAt (g := g) HT.out hx).1 hbw
      have hkm := List.mem_of_getElem? hx
      have HC := Lib.hid (fun V (hb : Below w.heap.size w V) => HI.out h' rfl k V ((HN.out.1.2.1 k hkm).1.later hb) (HN.out.2.1.2 k hkm).1 (HN.out.2.1.2 k hkm).2.2)
      have x1 : wr.cell? ⟨c, 1, none⟩ = some (.slice ka' Qs.length kc') := (HJ.out.2.2.hd).c1
      rw [HJ.out.1] at x1
      have HX := Lib.hid hx
      have HBw := Lib.hid hbw
      clear hx hbw hkm
      go_wp2
      refine wp_region_till 11 (fun V => V.cell? ⟨c, 1, none⟩ = some (.slice ka' j kc')) (by kernel_rfl) (x1) (fun hH => ?_)
      refine wpTill_take (i := 0) (v := ?v0) rfl (by kernel_rfl) (by kernel_rfl) (by kernel_rfl) (by kernel_rfl) (fun _ _ _ h => h) rfl ?hy0 hH ?rest0
      case hy0 => (intro Wx hSw; (try dsimp only at hSw); go_simp; all_goals (with_reducible rfl))
      try simp only [List.getElem_toArray, List.getElem_cons_succ, List.getElem_cons_zero, Act.put, List.setIfInBounds_toArray, List.set_cons_zero, List.set_cons_succ]
      refine wpTill_take (i := 1) (v := ?v1) rfl (by kernel_rfl) (by kernel_rfl) (by kernel_rfl) (by kernel_rfl) (fun _ _ _ h => h) rfl ?hy1 hH ?rest1
      case hy1 => (intro Wx hSw; (try dsimp only at hSw); go_simp; all_goals (with_reducible rfl))
      try simp only [List.getElem_toArray, List.getElem_cons_succ, List.getElem_cons_zero, Act.put, List.setIfInBounds_toArray, List.set_cons_zero, List.set_cons_succ]
      refine wpTill_take (i := 2) (v := ?v2) rfl (by kernel_rfl) (by kernel_rfl) (by kernel_rfl) (by kernel_rfl) (fun _ _ _ h => h) rfl ?hy2 hH ?rest2
      case hy2 => (intro Wx hSw; (try dsimp only at hSw); go_simp; all_goals (with_reducible rfl))
      try simp only [List.getElem_toArray, List.getElem_cons_succ, List.getElem_cons_zero, Act.put, List.setIfInBounds_toArray, List.set_cons_zero, List.set_cons_succ]
      refine wpTill_take (i := 3) (v := ?v3) rfl (by kernel_rfl) (by kernel_rfl) (by kernel_rfl) (by kernel_rfl) (fun _ _ _ h => h) rfl ?hy3 hH ?rest3
      case hy3 => (intro Wx hSw; (try dsimp only at hSw); go_simp; all_goals (with_reducible rfl))
      try simp only [List.getElem_toArray, List.getElem_cons_succ, List.getElem_cons_zero, Act.put, List.setIfInBounds_toArray, List.set_cons_zero, List.set_cons_succ]
      refine wpTill_take (i := 4) (v := ?v4) rfl (by kernel_rfl) (by kernel_rfl) (by kernel_rfl) (by kernel_rfl) (fun _ _ _ h => h) rfl ?hy4 hH ?rest4
      case hy4 => (intro Wx hSw; (try dsimp only at hSw); go_simp; all_goals (with_reducible rfl))
      try simp only [List.getElem_toArray, List.getElem_cons_succ, List.getElem_cons_zero, Act.put, List.setIfInBounds_toArray, List.set_cons_zero, List.set_cons_succ]
      refine wpTill_take (i := 5) (v := ?v5) rfl (by kernel_rfl) (by kernel_rfl) (by kernel_rfl) (by kernel_rfl) (fun _ _ _ h => h) rfl ?hy5 hH ?rest5
      case hy5 => (intro Wx hSw; (try dsimp only at hSw); go_simp; all_goals (with_reducible rfl))
      try simp only [List.getElem_toArray, List.getElem_cons_succ, List.getElem_cons_zero, Act.put, List.setIfInBounds_toArray, List.set_cons_zero, List.set_cons_succ]
      refine wpTill_one (i := 6) (by kernel_rfl) rfl rfl (fun K hK => ?_)
      go_simp
      (go_at_call 92; refine (HC.out _ HBw.out.drew).mono ?_; rintro e V3 ⟨g3, rfl, q1, q2, q3, q4⟩)
      have H3 := Lib.hid (And.intro q1 (And.intro q2 (And.intro q3 q4)))
      have HS3 := Lib.hid ((HJ.out.2.2.later (Below.refl _ wr).drew).addU q3 q1 q4)
      have y1 := old_cell hH q3
      clear q1 q2 q3 q4
      obtain ⟨a4, c4, F4, V4, hrun, ⟨v0, v1⟩, _, hS4⟩ := Sx.appK (t := ⟨.mk c Fp Fk g.ps Qs, a1, c1, ka', kc'⟩) HS3.out (n := j) HJ.out.1 (E := V3.alloc (.cells #[ptrV g3.b] 152)) (al1 V3 (.cells #[ptrV g3.b] 152)) (a2 := some ⟨V3.heap.size, 0, none⟩) (m := 1) (c2 := 1) (L := [g3]) (Rd.oneNew V3 _ _ rfl) rfl (by omega)
      have HRUN := Lib.hid hrun
      have HS4 : Hid (Sx w noCells (V4.setCell ⟨c, 1, none⟩ (.slice a4 (j + 1) c4)) [⟨.mk c Fp F4 g.ps (Qs ++ [g3]), a1, c1, a4, c4⟩] ((h', g3) :: subsOf (h' + 1) Qs)) := Lib.hid hS4
      have v0 : V4.cell? ⟨c, 1, none⟩ = some (.slice ka' j kc') := v0
      have v1 : V4.frozen? ⟨c, 1, none⟩ = false := v1
      clear hrun hS4
      have hH2 := y1
      refine hK.out _ _ (fun _ => hH2) ?_
      clear hK K hH; have hH := hH2; clear hH2
      try simp only [List.getElem_toArray, List.getElem_cons_succ, List.getElem_cons_zero, Act.put, List.setIfInBounds_toArray, List.set_cons_zero, List.set_cons_succ]
      refine wpTill_one (i := 7) (by kernel_rfl) rfl rfl (fun K hK => ?_)
      go_simp
      have hH2 := old_cell hH (al1 V3 (.cells #[ptrV g3.b] 152))
      refine hK.out _ _ (fun _ => hH2) ?_
      clear hK K hH; have hH := hH2; clear hH2
      try simp only [List.getElem_toArray, List.getElem_cons_succ, List.getElem_cons_zero, Act.put, List.setIfInBounds_toArray, List.set_cons_zero, List.set_cons_succ]
      refine wpTill_one (i := 8) (by kernel_rfl) rfl rfl (fun K hK => ?_)
      refine wp_appR _ _ 170 170 (by rfl) _ _ (by rfl) (by rfl) HRUN.out ?_
      have hH2 := v0
      refine hK.out _ _ (fun _ => hH2) ?_
      clear hK K hH; have hH := hH2; clear hH2
      try simp only [List.getElem_toArray, List.getElem_cons_succ, List.getElem_cons_zero, Act.put, List.setIfInBounds_toArray, List.set_cons_zero, List.set_cons_succ]
      refine wpTill_one (i := 9) (by kernel_rfl) rfl rfl (fun K hK => ?_)
      go_simp
      refine hK.out _ _ (fun _ => hH) ?_
      clear hK K
      try simp only [List.getElem_toArray, List.getElem_cons_succ, List.getElem_cons_zero, Act.put, List.setIfInBounds_toArray, List.set_cons_zero, List.set_cons_succ]
      refine wpTill_one (i := 10) (by kernel_rfl) rfl rfl (fun K hK => ?_)
      go_simp
      refine hK.out _ _ (fun _ => hH) ?_
      clear hK K
      try simp only [List.getElem_toArray, List.getElem_cons_succ, List.getElem_cons_zero, Act.put, List.setIfInBounds_toArray, List.set_cons_zero, List.set_cons_succ]
      refine wpTill_one (i := 11) (by kernel_rfl) rfl rfl (fun K hK => ?_)
      go_simp
      refine hK.out _ _ (fun h => absurd rfl h) ?_
      clear hK K
      try simp only [List.getElem_toArray, List.getElem_cons_succ, List.getElem_cons_zero, Act.put, List.setIfInBounds_toArray, List.set_cons_zero, List.set_cons_succ]
      refine wpTill_done (by kernel_rfl) ?_ _
      go_wp2
      go_roundw
      case rel =>
        refine ⟨j + 1, F4, Qs ++ [g3], a4, c4, by omega, by go_num, Lib.hid ⟨by rw [List.length_append, HJ.out.1]; rfl, ?_, ?_⟩⟩
        · rw [List.take_add_one, HX.out]; exact HJ.out.2.1.snoc H3.out.2.1
        · rw [subsOf_append]; exact HS4.out.perm (.refl _) (List.perm_append_singleton _ _).symm
      case measure => simp [intOf]; omega
    · obtain rfl : j = m := by omega
      go_wp2
      go_ret
      obtain ⟨h1, h2, h3⟩ := HJ.out.2.2.st.close_
      refine ⟨_, rfl, h1, ?_, h2.below (Nat.le_refl _) (fun _ _ h => h.elim), fun b x hx => (h3 b x hx).resolve_left (fun h => h)⟩
      have hl := HJ.out.2.1
      rw [List.take_of_length_le (by rw [HM.out]; exact Nat.le_refl _)] at hl
      cases h with
      | zero =>
        have e : g.ks = [] := HN.out.2.1
        refine ⟨rfl, e, ?_⟩
        have := hl.len
        rw [e] at this
        exact List.eq_nil_of_length_eq_zero this
      | succ h => exact ⟨rfl, hl⟩
theorem copyN_any (o : Nat) (ho : o ≤ 16) : ∀ (h : Nat) (g : G) (w : World), Nd w h g → Tr.Kids o h g → g.ps.length + 1 ≤ 2 * o → Calls Tryz.prog 92 #[ptrV g.b] w (CopyTo w h g)
  | 0, g, w, h1, h2, h3 => copy_step o ho 0 (fun h' e => by cases e) g w h1 h2 h3
  | h + 1, g, w, h1, h2, h3 => copy_step o ho (h + 1) (fun h' e => by cases e; exact copyN_any o ho h) g w h1 h2 h3
end Go.Proofs.YtecnijnmgdfdhaaGreat

/- A tree's copy. -/
namespace Go.Proofs.YtecnijnmgdfdhaaGreat
open Go.RowKit Tr
open Ky (less)
theorem Good.like {o h : Nat} {g g' : G} (hg : Good o h g) (hl : Like h g g') : Good o h g' :=
  ⟨hg.o2, hg.o16, hl.kids hg.kids, by rw [hl.flat]; exact hg.sorted, by rw [hl.ps]; exact hg.hi, fun h0 => by rw [hl.ps]; exact hg.pos h0⟩
set_option maxHeartbeats 4000000 in
set_option maxRecDepth 100000 in
theorem copyT_any (b o h : Nat) (g : G) (w : World) (hT : TreeAt w b o h g) :
    Calls Tryz.prog 64 #[ptrV b] w fun e V => ∃ b' g', e = .returned (ptrV b') ∧ TreeAt V b' o h g' ∧ Like h g g' ∧ Below w.heap.size w V ∧ ∀ k x, treeF b' h g' k x → w.heap.size ≤ k := by
  have x0 := hT.m.c0
  have x1 := hT.m.c1
  have x2 := hT.m.c2
  have HT := Lib.hid hT
  have HC := Lib.hid (fun V (hb : Below w.heap.size w V) => copyN_any o HT.out.good.o16 h g V (HT.out.m.nd.later hb) HT.out.good.kids HT.out.good.hi)
  obtain ⟨n, hn⟩ : ∃ n, (flat h g).length = n := ⟨_, rfl⟩
  have HN := Lib.hid hn
  rw [hn] at x1
  clear hT hn
  go_enter Tryz.func64, Tryz.ntmps64
  go_wp2
  refine wp_region_held_drew (S := (fun V => V.cell? ⟨b, 0, none⟩ = some (.int .i64 o) ∧ V.cell? ⟨b, 1, none⟩ = some (.int .i64 n) ∧ V.cell? ⟨b, 2, none⟩ = some (ptrV g.b))) (by kernel_rfl) ⟨x0, x1, x2⟩ (fun hH0 => ?_)
  refine wpAnyH_take (i := 0) (v := ?v0) rfl (by kernel_rfl) (by kernel_rfl) (by kernel_rfl) (fun _ _ _ h => h) (Or.inl ⟨by rfl, ?hy0⟩) hH0 ?rest0
  case hy0 => (intro Wx hSw; (try dsimp only at hSw); go_simp; all_goals (with_reducible rfl))
  try simp only [List.getElem_toArray, List.getElem_cons_succ, List.getElem_cons_zero, Act.put, List.setIfInBounds_toArray, List.set_cons_zero, List.set_cons_succ]
  refine wpAnyH_take (i := 1) (v := ?v1) rfl (by kernel_rfl) (by kernel_rfl) (by kernel_rfl) (fun _ _ _ h => h) (Or.inl ⟨by rfl, ?hy1⟩) hH0 ?rest1
  case hy1 => (intro Wx hSw; (try dsimp only at hSw); go_simp; all_goals (with_reducible rfl))
  try simp only [List.getElem_toArray, List.getElem_cons_succ, List.getElem_cons_zero, Act.put, List.setIfInBounds_toArray, List.set_cons_zero, List.set_cons_succ]
  refine wpAnyH_take (i := 2) (v := ?v2) rfl (by kernel_rfl) (by kernel_rfl) (by kernel_rfl) (fun _ _ _ h => h) (Or.inl ⟨by rfl, ?hy2⟩) hH0 ?rest2
  case hy2 => (intro Wx hSw; (try dsimp only at hSw); go_simp; all_goals (with_reducible rfl))
  try simp only [List.getElem_toArray, List.getElem_cons_succ, List.getElem_cons_zero, Act.put, List.setIfInBounds_toArray, List.set_cons_zero, List.set_cons_succ]
  refine wpAnyH_take (i := 3) (v := ?v3) rfl (by kernel_rfl) (by kernel_rfl) (by kernel_rfl) (fun _ _ _ h => h) (Or.inl ⟨by rfl, ?hy3⟩) hH0 ?rest3
  case hy3 => (intro Wx hSw; (try dsimp only at hSw); go_simp; all_goals (with_reducible rfl))
  try simp only [List.getElem_toArray, List.getElem_cons_succ, List.getElem_cons_zero, Act.put, List.setIfInBounds_toArray, List.set_cons_zero, List.set_cons_succ]
  refine wpAnyH_take (i := 4) (v := ?v4) rfl (by kernel_rfl) (by kernel_rfl) (by kernel_rfl) (fun _ _ _ h => h) (Or.inl ⟨by rfl, ?hy4⟩) hH0 ?rest4
  case hy4 => (intro Wx hSw; (try dsimp only at hSw); go_simp; all_goals (with_reducible rfl))
  try simp only [List.getElem_toArray, List.getElem_cons_succ, List.getElem_cons_zero, Act.put, List.setIfInBounds_toArray, List.set_cons_zero, List.set_cons_succ]
  refine wpAnyH_take (i := 5) (v := ?v5) rfl (by kernel_rfl) (by kernel_rfl) (by kernel_rfl) (fun _ _ _ h => h) (Or.inl ⟨by rfl, ?hy5⟩) hH0 ?rest5
  case hy5 => (intro Wx hSw; (try dsimp only at hSw); go_simp; all_goals (with_reducible rfl))
  try simp only [List.getElem_toArray, List.getElem_cons_succ, List.getElem_cons_zero, Act.put, List.setIfInBounds_toArray, List.set_cons_zero, List.set_cons_succ]
  refine wpAnyH_take (i := 6) (v := ?v6) rfl (by kernel_rfl) (by kernel_rfl) (by kernel_rfl) (fun _ _ _ h => h) (Or.inl ⟨by rfl, ?hy6⟩) hH0 ?rest6
  case hy6 => (intro Wx hSw; (try dsimp only at hSw); go_simp; all_goals (with_reducible rfl))
  try simp only [List.getElem_toArray, List.getElem_cons_succ, List.getElem_cons_zero, Act.put, List.setIfInBounds_toArray, List.set_cons_zero, List.set_cons_succ]
  refine wpAnyH_take (i := 7) (v := ?v7) rfl (by kernel_rfl) (by kernel_rfl) (by kernel_rfl) (fun _ _ _ h => h) (Or.inl ⟨by rfl, ?hy7⟩) hH0 ?rest7
  case hy7 => (intro Wx hSw; (try dsimp only at hSw); go_simp; all_goals (with_reducible rfl))
  try simp only [List.getElem_toArray, List.getElem_cons_succ, List.getElem_cons_zero, Act.put, List.setIfInBounds_toArray, List.set_cons_zero, List.set_cons_succ]
  refine wpAnyH_take (i := 8) (v := ?v8) rfl (by kernel_rfl) (by kernel_rfl) (by kernel_rfl) (fun _ _ _ h => h) (Or.inl ⟨by rfl, ?hy8⟩) hH0 ?rest8
  case hy8 => (intro Wx hSw; (try dsimp only at hSw); go_simp; all_goals (with_reducible rfl))
  try simp only [List.getElem_toArray, List.getElem_cons_succ, List.getElem_cons_zero, Act.put, List.setIfInBounds_toArray, List.set_cons_zero, List.set_cons_succ]
  refine wpAnyH_take (i := 9) (v := ?v9) rfl (by kernel_rfl) (by kernel_rfl) (by kernel_rfl) (fun _ _ _ h => h) (Or.inl ⟨by rfl, ?hy9⟩) hH0 ?rest9
  case hy9 => (intro Wx hSw; (try dsimp only at hSw); go_simp; all_goals (with_reducible rfl))
  try simp only [List.getElem_toArray, List.getElem_cons_succ, List.getElem_cons_zero, Act.put, List.setIfInBounds_toArray, List.set_cons_zero, List.set_cons_succ]
  refine wpAnyH_take (i := 10) (v := ?v10) rfl (by kernel_rfl) (by kernel_rfl) (by kernel_rfl) (fun _ _ _ h => h) (Or.inl ⟨by rfl, ?hy10⟩) hH0 ?rest10
  case hy10 => (intro Wx hSw; (try dsimp only at hSw); go_simp; all_goals (with_reducible rfl))
  try simp only [List.getElem_toArray, List.getElem_cons_succ, List.getElem_cons_zero, Act.put, List.setIfInBounds_toArray, List.set_cons_zero, List.set_cons_succ]
  refine wpAnyH_take (i := 11) (v := ?v11) rfl (by kernel_rfl) (by kernel_rfl) (by kernel_rfl) (fun _ _ _ h => h) (Or.inl ⟨by rfl, ?hy11⟩) hH0 ?rest11
  case hy11 => (intro Wx hSw; (try dsimp only at hSw); go_simp; all_goals (with_reducible rfl))
  try simp only [List.getElem_toArray, List.getElem_cons_succ, List.getElem_cons_zero, Act.put, List.setIfInBounds_toArray, List.set_cons_zero, List.set_cons_succ]
  refine wpAnyH_ready (rs := [12]) (by kernel_rfl) (by simp) ?_
  refine AllReadyH.cons rfl (fun K hK => ?_) AllReadyH.nil
  simp only [List.getElem_toArray, List.getElem_cons_succ, List.getElem_cons_zero]
  go_simp
  (go_at_call 92; refine (HC.out _ (below_drewN _ 1)).mono ?_; rintro e V3 ⟨g3, rfl, q1, q2, q3, q4⟩)
  have H3 := Lib.hid (And.intro q1 (And.intro q2 (And.intro q3 q4)))
  have y := And.intro (old_cell x0 ((below_drewN w 1).trans q3)) (And.intro (old_cell x1 ((below_drewN w 1).trans q3)) (old_cell x2 ((below_drewN w 1).trans q3)))
  clear q1 q2 q3 q4
  refine hK.out _ _ (y) (fun hH1 => ?_)
  clear hK K hH0
  try simp only [List.getElem_toArray, List.getElem_cons_succ, List.getElem_cons_zero, Act.put, List.setIfInBounds_toArray, List.set_cons_zero, List.set_cons_succ]
  refine wpAnyH_take (i := 13) (v := ?v13) rfl (by kernel_rfl) (by kernel_rfl) (by kernel_rfl) (fun _ _ _ h => h) (Or.inl ⟨by rfl, ?hy13⟩) hH1 ?rest13
  case hy13 => (intro Wx hSw; (try dsimp only at hSw); go_simp; all_goals (with_reducible rfl))
  try simp only [List.getElem_toArray, List.getElem_cons_succ, List.getElem_cons_zero, Act.put, List.setIfInBounds_toArray, List.set_cons_zero, List.set_cons_succ]
  refine wpAnyH_ready (rs := [14]) (by kernel_rfl) (by simp) ?_
  refine AllReadyH.cons rfl (fun K hK => ?_) AllReadyH.nil
  simp only [List.getElem_toArray, List.getElem_cons_succ, List.getElem_cons_zero]
  go_simp
  refine hK.out _ _ (And.intro (old_cell hH1.1 (al1 V3 _)) (And.intro (old_cell hH1.2.1 (al1 V3 _)) (old_cell hH1.2.2 (al1 V3 _)))) (fun hH2 => ?_)
  clear hK K hH1
  try simp only [List.getElem_toArray, List.getElem_cons_succ, List.getElem_cons_zero, Act.put, List.setIfInBounds_toArray, List.set_cons_zero, List.set_cons_succ]
  refine wpAnyH_take (i := 15) (v := ?v15) rfl (by kernel_rfl) (by kernel_rfl) (by kernel_rfl) (fun _ _ _ h => h) (Or.inl ⟨by rfl, ?hy15⟩) hH2 ?rest15
  case hy15 => (intro Wx hSw; (try dsimp only at hSw); go_simp; all_goals (with_reducible rfl))
  try simp only [List.getElem_toArray, List.getElem_cons_succ, List.getElem_cons_zero, Act.put, List.setIfInBounds_toArray, List.set_cons_zero, List.set_cons_succ]
  refine wpAnyH_done (by kernel_rfl) ?_ _
  go_wp2
  go_ret
  have hsz := H3.out.2.2.1.size
  have hTM : TreeM (V3.alloc (.cells #[.int .i64 o, .int .i64 n, ptrV g3.b] 154)) V3.heap.size o n h g3 :=
    ⟨by simp, by simp, by simp, by simp, by simp, by simp, fun x hx => Nat.lt_irrefl _ (H3.out.1.lies _ _ hx), H3.out.1.later (al1 V3 _)⟩
  refine ⟨V3.heap.size, g3, rfl, ⟨by rw [H3.out.2.1.flat, HN.out]; exact hTM, HT.out.good.like H3.out.2.1⟩, H3.out.2.1, (below_drewN w 1).trans ((H3.out.2.2.1.trans ((al1 V3 _).mono hsz)).mono (Nat.le_refl _)), fun k x hk => ?_⟩
  rcases hk with rfl | hk
  · exact hsz
  · exact H3.out.2.2.2 k x hk
end Go.Proofs.YtecnijnmgdfdhaaGreat
