/- Joined: Tree36. -/
import Derived.Test.YtbempjkkohjnbaaYTree35
import Derived.Test.YtbempjkkohjnbaaYTreeE
import Derived.Test.YtbempjkkohjnbaaYSep
/- A tree's copy. -/
namespace Go.Proofs.Ytbempjkkohjnbaa
open Go.RowKit Tr
open Ky (less)
theorem Good.like {o h : Nat} {g g' : G} (hg : Good o h g) (hl : Like h g g') : Good o h g' :=
  ⟨hg.o2, hg.o16, hl.kids hg.kids, by rw [hl.flat]; exact hg.sorted, by rw [hl.ps]; exact hg.hi, fun h0 => by rw [hl.ps]; exact hg.pos h0⟩
set_option maxHeartbeats 4000000 in
set_option maxRecDepth 100000 in
theorem copyT_any (b o h : Nat) (g : G) (w : World) (hT : TreeAt w b o h g) :
    Calls Try.prog 41 #[ptrV b] w fun e V => ∃ b' g', e = .returned (ptrV b') ∧ TreeAt V b' o h g' ∧ Like h g g' ∧ Below w.heap.size w V ∧ ∀ k x, treeF b' h g' k x → w.heap.size ≤ k := by
  have x0 := hT.m.c0
  have x1 := hT.m.c1
  have x2 := hT.m.c2
  have HT := Lib.hid hT
  have HC := Lib.hid (fun V (hb : Below w.heap.size w V) => copyN_any o HT.out.good.o16 h g V (HT.out.m.nd.later hb) HT.out.good.kids HT.out.good.hi)
  obtain ⟨n, hn⟩ : ∃ n, (flat h g).length = n := ⟨_, rfl⟩
  have HN := Lib.hid hn
  rw [hn] at x1
  clear hT hn
  go_enter Try.func41, Try.ntmps41
  go_wp2
  refine wp_region_held_drew (S := (fun V => V.cell? ⟨b, 0, none⟩ = some (.int .i64 o) ∧ V.cell? ⟨b, 1, none⟩ = some (.int .i64 n) ∧ V.cell? ⟨b, 2, none⟩ = some (ptrV g.b))) (by kernel_rfl) ⟨x0, x1, x2⟩ (fun hH0 => ?_)
  refine wpAnyH_take (i := 0) (v := ?v0) rfl (by kernel_rfl) (by kernel_rfl) (by kernel_rfl) (fun _ _ _ h => h) (Or.inl ⟨by rfl, ?hy0⟩) hH0 ?rest0
  case hy0 => (intro Wx hSw; (try dsimp only at hSw); go_simp; all_goals (with_reducible rfl))
  try simp only [List.getElem_toArray, List.getElem_cons_succ, List.getElem_cons_zero, Act.put, List.setIfInBounds_toArray, List.set_cons_zero, List.set_cons_succ]
  refine wpAnyH_take (i := 1) (v := ?v1) rfl (by kernel_rfl) (by kernel_rfl) (by kernel_rfl) (fun _ _ _ h => h) (Or.inl ⟨by rfl, ?hy1⟩) hH0 ?rest1
  case hy1 => (intro Wx hSw; (try dsimp only at hSw); go_simp; all_goals (with_reducible rfl))
  try simp only [List.getElem_toArray, List.getElem_cons_succ, List.getElem_cons_zero, Act.put, List.setIfInBounds_toArray, List.set_cons_zero, List.set_cons_succ]
  refine wpAnyH_take (i := 2) (v := ?v2) rfl (by kernel_rfl) (by kernel_rfl) (by kernel_rfl) (fun _ _ _ h => h) (Or.inl ⟨by rfl, ?hy2⟩) hH0 ?rest2
  case hy2 => (intro Wx hSw; (try dsimp only at hSw); go_simp; all_goals (with_reducible rfl))
  try simp only [List.getElem_toArray, List.getElem_cons_succ, List.getElem_cons_zero, Act.put, List.setIfInBounds_toArray, List.set_cons_zero, List.set_cons_succ]
  refine wpAnyH_take (i := 3) (v := ?v3) rfl (by kernel_rfl) (by kernel_rfl) (by kernel_rfl) (fun _ _ _ h => h) (Or.inl ⟨by rfl, ?hy3⟩) hH0 ?rest3
  case hy3 => (intro Wx hSw; (try dsimp only at hSw); go_simp; all_goals (with_reducible rfl))
  try simp only [List.getElem_toArray, List.getElem_cons_succ, List.getElem_cons_zero, Act.put, List.setIfInBounds_toArray, List.set_cons_zero, List.set_cons_succ]
  refine wpAnyH_take (i := 4) (v := ?v4) rfl (by kernel_rfl) (by kernel_rfl) (by kernel_rfl) (fun _ _ _ h => h) (Or.inl ⟨by rfl, ?hy4⟩) hH0 ?rest4
  case hy4 => (intro Wx hSw; (try dsimp only at hSw); go_simp; all_goals (with_reducible rfl))
  try simp only [List.getElem_toArray, List.getElem_cons_succ, List.getElem_cons_zero, Act.put, List.setIfInBounds_toArray, List.set_cons_zero, List.set_cons_succ]
  refine wpAnyH_take (i := 5) (v := ?v5) rfl (by kernel_rfl) (by kernel_rfl) (by kernel_rfl) (fun _ _ _ h => h) (Or.inl ⟨by rfl, ?hy5⟩) hH0 ?rest5
  case hy5 => (intro Wx hSw; (try dsimp only at hSw); go_simp; all_goals (with_reducible rfl))
  try simp only [List.getElem_toArray, List.getElem_cons_succ, List.getElem_cons_zero, Act.put, List.setIfInBounds_toArray, List.set_cons_zero, List.set_cons_succ]
  refine wpAnyH_take (i := 6) (v := ?v6) rfl (by kernel_rfl) (by kernel_rfl) (by kernel_rfl) (fun _ _ _ h => h) (Or.inl ⟨by rfl, ?hy6⟩) hH0 ?rest6
  case hy6 => (intro Wx hSw; (try dsimp only at hSw); go_simp; all_goals (with_reducible rfl))
  try simp only [List.getElem_toArray, List.getElem_cons_succ, List.getElem_cons_zero, Act.put, List.setIfInBounds_toArray, List.set_cons_zero, List.set_cons_succ]
  refine wpAnyH_take (i := 7) (v := ?v7) rfl (by kernel_rfl) (by kernel_rfl) (by kernel_rfl) (fun _ _ _ h => h) (Or.inl ⟨by rfl, ?hy7⟩) hH0 ?rest7
  case hy7 => (intro Wx hSw; (try dsimp only at hSw); go_simp; all_goals (with_reducible rfl))
  try simp only [List.getElem_toArray, List.getElem_cons_succ, List.getElem_cons_zero, Act.put, List.setIfInBounds_toArray, List.set_cons_zero, List.set_cons_succ]
  refine wpAnyH_take (i := 8) (v := ?v8) rfl (by kernel_rfl) (by kernel_rfl) (by kernel_rfl) (fun _ _ _ h => h) (Or.inl ⟨by rfl, ?hy8⟩) hH0 ?rest8
  case hy8 => (intro Wx hSw; (try dsimp only at hSw); go_simp; all_goals (with_reducible rfl))
  try simp only [List.getElem_toArray, List.getElem_cons_succ, List.getElem_cons_zero, Act.put, List.setIfInBounds_toArray, List.set_cons_zero, List.set_cons_succ]
  refine wpAnyH_take (i := 9) (v := ?v9) rfl (by kernel_rfl) (by kernel_rfl) (by kernel_rfl) (fun _ _ _ h => h) (Or.inl ⟨by rfl, ?hy9⟩) hH0 ?rest9
  case hy9 => (intro Wx hSw; (try dsimp only at hSw); go_simp; all_goals (with_reducible rfl))
  try simp only [List.getElem_toArray, List.getElem_cons_succ, List.getElem_cons_zero, Act.put, List.setIfInBounds_toArray, List.set_cons_zero, List.set_cons_succ]
  refine wpAnyH_take (i := 10) (v := ?v10) rfl (by kernel_rfl) (by kernel_rfl) (by kernel_rfl) (fun _ _ _ h => h) (Or.inl ⟨by rfl, ?hy10⟩) hH0 ?rest10
  case hy10 => (intro Wx hSw; (try dsimp only at hSw); go_simp; all_goals (with_reducible rfl))
  try simp only [List.getElem_toArray, List.getElem_cons_succ, List.getElem_cons_zero, Act.put, List.setIfInBounds_toArray, List.set_cons_zero, List.set_cons_succ]
  refine wpAnyH_take (i := 11) (v := ?v11) rfl (by kernel_rfl) (by kernel_rfl) (by kernel_rfl) (fun _ _ _ h => h) (Or.inl ⟨by rfl, ?hy11⟩) hH0 ?rest11
  case hy11 => (intro Wx hSw; (try dsimp only at hSw); go_simp; all_goals (with_reducible rfl))
  try simp only [List.getElem_toArray, List.getElem_cons_succ, List.getElem_cons_zero, Act.put, List.setIfInBounds_toArray, List.set_cons_zero, List.set_cons_succ]
  refine wpAnyH_ready (rs := [12]) (by kernel_rfl) (by simp) ?_
  refine AllReadyH.cons rfl (fun K hK => ?_) AllReadyH.nil
  simp only [List.getElem_toArray, List.getElem_cons_succ, List.getElem_cons_zero]
  go_simp
  (go_at_call 55; refine (HC.out _ (below_drewN _ 1)).mono ?_; rintro e V3 ⟨g3, rfl, q1, q2, q3, q4⟩)
  have H3 := Lib.hid (And.intro q1 (And.intro q2 (And.intro q3 q4)))
  have y := And.intro (old_cell x0 ((below_drewN w 1).trans q3)) (And.intro (old_cell x1 ((below_drewN w 1).trans q3)) (old_cell x2 ((below_drewN w 1).trans q3)))
  clear q1 q2 q3 q4
  refine hK.out _ _ (y) (fun hH1 => ?_)
  clear hK K hH0
  try simp only [List.getElem_toArray, List.getElem_cons_succ, List.getElem_cons_zero, Act.put, List.setIfInBounds_toArray, List.set_cons_zero, List.set_cons_succ]
  refine wpAnyH_take (i := 13) (v := ?v13) rfl (by kernel_rfl) (by kernel_rfl) (by kernel_rfl) (fun _ _ _ h => h) (Or.inl ⟨by rfl, ?hy13⟩) hH1 ?rest13
  case hy13 => (intro Wx hSw; (try dsimp only at hSw); go_simp; all_goals (with_reducible rfl))
  try simp only [List.getElem_toArray, List.getElem_cons_succ, List.getElem_cons_zero, Act.put, List.setIfInBounds_toArray, List.set_cons_zero, List.set_cons_succ]
  refine wpAnyH_ready (rs := [14]) (by kernel_rfl) (by simp) ?_
  refine AllReadyH.cons rfl (fun K hK => ?_) AllReadyH.nil
  simp only [List.getElem_toArray, List.getElem_cons_succ, List.getElem_cons_zero]
  go_simp
  refine hK.out _ _ (And.intro (old_cell hH1.1 (al1 V3 _)) (And.intro (old_cell hH1.2.1 (al1 V3 _)) (old_cell hH1.2.2 (al1 V3 _)))) (fun hH2 => ?_)
  clear hK K hH1
  try simp only [List.getElem_toArray, List.getElem_cons_succ, List.getElem_cons_zero, Act.put, List.setIfInBounds_toArray, List.set_cons_zero, List.set_cons_succ]
  refine wpAnyH_take (i := 15) (v := ?v15) rfl (by kernel_rfl) (by kernel_rfl) (by kernel_rfl) (fun _ _ _ h => h) (Or.inl ⟨by rfl, ?hy15⟩) hH2 ?rest15
  case hy15 => (intro Wx hSw; (try dsimp only at hSw); go_simp; all_goals (with_reducible rfl))
  try simp only [List.getElem_toArray, List.getElem_cons_succ, List.getElem_cons_zero, Act.put, List.setIfInBounds_toArray, List.set_cons_zero, List.set_cons_succ]
  refine wpAnyH_done (by kernel_rfl) ?_ _
  go_wp2
  go_ret
  have hsz := H3.out.2.2.1.size
  have hTM : TreeM (V3.alloc (.cells #[.int .i64 o, .int .i64 n, ptrV g3.b] 93)) V3.heap.size o n h g3 :=
    ⟨by simp, by simp, by simp, by simp, by simp, by simp, fun x hx => Nat.lt_irrefl _ (H3.out.1.lies _ _ hx), H3.out.1.later (al1 V3 _)⟩
  refine ⟨V3.heap.size, g3, rfl, ⟨by rw [H3.out.2.1.flat, HN.out]; exact hTM, HT.out.good.like H3.out.2.1⟩, H3.out.2.1, (below_drewN w 1).trans ((H3.out.2.2.1.trans ((al1 V3 _).mono hsz)).mono (Nat.le_refl _)), fun k x hk => ?_⟩
  rcases hk with rfl | hk
  · exact hsz
  · exact H3.out.2.2.2 k x hk
end Go.Proofs.Ytbempjkkohjnbaa
