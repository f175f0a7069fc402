/- Get: an entry's bytes. (UNDER WAY) -/
import Derived.Test.YtakgpljpdcjmfaaKeysGet2
import Derived.Test.YtakgpljpdcjmfaaKeysLaws3
namespace Go.Proofs.Ytakgpljpdcjmfaa
open Go.RowKit

set_option maxRecDepth 100000 in
set_option maxHeartbeats 2000000 in
theorem get_good8 (b0 b1 b2 b3 b4 b5 b6 b7 : UInt8) (r : List UInt8) (ho : okKey r = true) (w : World) :
    Calls Try.prog 15 #[.string ⟨([b0, b1, b2, b3, b4, b5, b6, b7] ++ r).toArray⟩] w fun e w' => e = .returned (.tuple #[entV (Ky.dec [b0, b1, b2, b3, b4, b5, b6, b7]) r, .int .i64 0]) ∧ Below w.heap.size w w' := by
  have hc : chk r = 0 := by unfold chk; rw [ho]; rfl
  have HC := Lib.hid (check_any r)
  rw [hc] at HC
  have hcut : ∀ W, (Instr.slice 9 (.string ⟨([b0, b1, b2, b3, b4, b5, b6, b7] ++ r).toArray⟩) (some (.int .i64 8)) none none).run Try.prog W = .ok (.string ⟨r.toArray⟩) W := fun W => cut8 ([b0, b1, b2, b3, b4, b5, b6, b7] ++ r) (by simp) W
  have hlen : 8 ≤ ([b0, b1, b2, b3, b4, b5, b6, b7] ++ r).length := by simp
  have r0 : ∀ w, (Instr.index 9 (.string ⟨([b0, b1, b2, b3, b4, b5, b6, b7] ++ r).toArray⟩) (.int .i64 0)).run Try.prog w = .ok (.int .u8 b0.toNat) w := fun w => idx_run (s := [b0, b1, b2, b3, b4, b5, b6, b7] ++ r) (k := 0) rfl w
  have r1 : ∀ w, (Instr.index 9 (.string ⟨([b0, b1, b2, b3, b4, b5, b6, b7] ++ r).toArray⟩) (.int .i64 1)).run Try.prog w = .ok (.int .u8 b1.toNat) w := fun w => idx_run (s := [b0, b1, b2, b3, b4, b5, b6, b7] ++ r) (k := 1) rfl w
  have r2 : ∀ w, (Instr.index 9 (.string ⟨([b0, b1, b2, b3, b4, b5, b6, b7] ++ r).toArray⟩) (.int .i64 2)).run Try.prog w = .ok (.int .u8 b2.toNat) w := fun w => idx_run (s := [b0, b1, b2, b3, b4, b5, b6, b7] ++ r) (k := 2) rfl w
  have r3 : ∀ w, (Instr.index 9 (.string ⟨([b0, b1, b2, b3, b4, b5, b6, b7] ++ r).toArray⟩) (.int .i64 3)).run Try.prog w = .ok (.int .u8 b3.toNat) w := fun w => idx_run (s := [b0, b1, b2, b3, b4, b5, b6, b7] ++ r) (k := 3) rfl w
  have r4 : ∀ w, (Instr.index 9 (.string ⟨([b0, b1, b2, b3, b4, b5, b6, b7] ++ r).toArray⟩) (.int .i64 4)).run Try.prog w = .ok (.int .u8 b4.toNat) w := fun w => idx_run (s := [b0, b1, b2, b3, b4, b5, b6, b7] ++ r) (k := 4) rfl w
  have r5 : ∀ w, (Instr.index 9 (.string ⟨([b0, b1, b2, b3, b4, b5, b6, b7] ++ r).toArray⟩) (.int .i64 5)).run Try.prog w = .ok (.int .u8 b5.toNat) w := fun w => idx_run (s := [b0, b1, b2, b3, b4, b5, b6, b7] ++ r) (k := 5) rfl w
  have r6 : ∀ w, (Instr.index 9 (.string ⟨([b0, b1, b2, b3, b4, b5, b6, b7] ++ r).toArray⟩) (.int .i64 6)).run Try.prog w = .ok (.int .u8 b6.toNat) w := fun w => idx_run (s := [b0, b1, b2, b3, b4, b5, b6, b7] ++ r) (k := 6) rfl w
  have r7 : ∀ w, (Instr.index 9 (.string ⟨([b0, b1, b2, b3, b4, b5, b6, b7] ++ r).toArray⟩) (.int .i64 7)).run Try.prog w = .ok (.int .u8 b7.toNat) w := fun w => idx_run (s := [b0, b1, b2, b3, b4, b5, b6, b7] ++ r) (k := 7) rfl w
  have HG := Lib.hid (gather_any b0 b1 b2 b3 b4 b5 b6 b7)
  have hr16 : r.length ≤ 16 := by unfold okKey at ho; simp at ho; omega
  have HCl := Lib.hid (fun w => clone_any ⟨r.toArray⟩ w (by simp [ByteArray.size]; omega))
  clear ho hc
  generalize [b0, b1, b2, b3, b4, b5, b6, b7] ++ r = L at *
  go_enter Try.func15, Try.ntmps15
  go_wp2_with (go_at_call 11; refine (HC.out _).mono ?_; rintro e w1 ⟨rfl, rfl⟩)
  refine wp_loop_rounds 9 ?_
  repeat any_goals (rw [rounds_succ]; go_wp2)
  refine wp_region_held_drew (S := fun _ => True) (by kernel_rfl) trivial (fun hH => ?_)
  refine wpAnyH_take (i := 2) (v := ?v2) rfl (by kernel_rfl) (by kernel_rfl) (by kernel_rfl) (fun _ _ _ h => h) (Or.inl ⟨by rfl, ?hy2⟩) hH ?rest2
  case hy2 => (intro W hSw; (try dsimp only at hSw); go_simp; all_goals (with_reducible rfl))
  try simp only [List.getElem_toArray, List.getElem_cons_succ, List.getElem_cons_zero, Act.put, List.setIfInBounds_toArray, List.set_cons_zero, List.set_cons_succ]
  refine wpAnyH_take (i := 3) (v := ?v3) rfl (by kernel_rfl) (by kernel_rfl) (by kernel_rfl) (fun _ _ _ h => h) (Or.inl ⟨by rfl, ?hy3⟩) hH ?rest3
  case hy3 => (intro W hSw; (try dsimp only at hSw); go_simp; all_goals (with_reducible rfl))
  try simp only [List.getElem_toArray, List.getElem_cons_succ, List.getElem_cons_zero, Act.put, List.setIfInBounds_toArray, List.set_cons_zero, List.set_cons_succ]
  refine wpAnyH_ready (rs := [0]) (by kernel_rfl) (by simp) ?_
  refine AllReadyH.cons rfl (fun K hK => ?_) AllReadyH.nil
  simp only [List.getElem_toArray, List.getElem_cons_succ, List.getElem_cons_zero]
  go_simp
  refine hK.out _ _ trivial (fun hH0 => ?_)
  clear hK K
  try simp only [List.getElem_toArray, List.getElem_cons_succ, List.getElem_cons_zero, Act.put, List.setIfInBounds_toArray, List.set_cons_zero, List.set_cons_succ]
  refine wpAnyH_ready (rs := [1]) (by kernel_rfl) (by simp) ?_
  refine AllReadyH.cons rfl (fun K hK => ?_) AllReadyH.nil
  simp only [List.getElem_toArray, List.getElem_cons_succ, List.getElem_cons_zero]
  go_simp
  (go_at_call 20; refine (HG.out _).mono ?_; rintro e w2 ⟨rfl, hb2⟩; have HB2 := Lib.hid hb2; clear hb2)
  refine hK.out _ _ trivial (fun hH1 => ?_)
  clear hK K
  try simp only [List.getElem_toArray, List.getElem_cons_succ, List.getElem_cons_zero, Act.put, List.setIfInBounds_toArray, List.set_cons_zero, List.set_cons_succ]
  refine wpAnyH_ready (rs := [4]) (by kernel_rfl) (by simp) ?_
  refine AllReadyH.cons rfl (fun K hK => ?_) AllReadyH.nil
  simp only [List.getElem_toArray, List.getElem_cons_succ, List.getElem_cons_zero]
  go_simp
  (go_at_call 21; refine (HCl.out _).mono ?_; rintro e w3 ⟨rfl, hb3⟩; have HB3 := Lib.hid hb3; clear hb3)
  refine hK.out _ _ trivial (fun hH4 => ?_)
  clear hK K
  try simp only [List.getElem_toArray, List.getElem_cons_succ, List.getElem_cons_zero, Act.put, List.setIfInBounds_toArray, List.set_cons_zero, List.set_cons_succ]
  refine wpAnyH_take (i := 5) (v := ?v5) rfl (by kernel_rfl) (by kernel_rfl) (by kernel_rfl) (fun _ _ _ h => h) (Or.inl ⟨by rfl, ?hy5⟩) hH4 ?rest5
  case hy5 => (intro W hSw; (try dsimp only at hSw); go_simp; all_goals (with_reducible rfl))
  try simp only [List.getElem_toArray, List.getElem_cons_succ, List.getElem_cons_zero, Act.put, List.setIfInBounds_toArray, List.set_cons_zero, List.set_cons_succ]
  have hs2 := HB2.out.size
  simp at hs2
  have c0 : w3.cell? ⟨w.heap.size, 0, none⟩ = some (.int .i64 0) := old_cell (old_cell (by simp) HB2.out) HB3.out
  have c1 : w3.cell? ⟨w.heap.size, 1, none⟩ = some (.string ⟨#[]⟩) := old_cell (old_cell (by simp) HB2.out) HB3.out
  have f0 : w3.frozen? ⟨w.heap.size, 0, none⟩ = false := by
    rw [(bcell HB3.out).2 w.heap.size 0 (by omega), (bcell HB2.out).2 w.heap.size 0 (by simp; omega)]; simp
  have f1 : w3.frozen? ⟨w.heap.size, 1, none⟩ = false := by
    rw [(bcell HB3.out).2 w.heap.size 1 (by omega), (bcell HB2.out).2 w.heap.size 1 (by simp; omega)]; simp
  have HBF : Hid (Below w.heap.size w w3) := by
    have h1 := al1 w (.cells #[.int .i64 0, .string ⟨#[]⟩] 23)
    have h2 := h1.alloc h1.size (.cells #[.int .u8 b0.toNat, .int .u8 b1.toNat, .int .u8 b2.toNat, .int .u8 b3.toNat, .int .u8 b4.toNat, .int .u8 b5.toNat, .int .u8 b6.toNat, .int .u8 b7.toNat] 47)
    exact Lib.hid ((h2.drew.trans (HB2.out.mono (by simp; omega))).trans (HB3.out.mono (by omega)))
  clear HB2 HB3 hs2
  refine wpAnyH_ready (rs := [6]) (by kernel_rfl) (by simp) ?_
  refine AllReadyH.cons rfl (fun K hK => ?_) AllReadyH.nil
  simp only [List.getElem_toArray, List.getElem_cons_succ, List.getElem_cons_zero]
  go_simp
  refine hK.out _ _ trivial (fun hH6 => ?_)
  clear hK K
  try simp only [List.getElem_toArray, List.getElem_cons_succ, List.getElem_cons_zero, Act.put, List.setIfInBounds_toArray, List.set_cons_zero, List.set_cons_succ]
  refine wpAnyH_take (i := 7) (v := ?v7) rfl (by kernel_rfl) (by kernel_rfl) (by kernel_rfl) (fun _ _ _ h => h) (Or.inl ⟨by rfl, ?hy7⟩) hH6 ?rest7
  case hy7 => (intro W hSw; (try dsimp only at hSw); go_simp; all_goals (with_reducible rfl))
  try simp only [List.getElem_toArray, List.getElem_cons_succ, List.getElem_cons_zero, Act.put, List.setIfInBounds_toArray, List.set_cons_zero, List.set_cons_succ]
  refine wpAnyH_done (by kernel_rfl) ?_ _
  have n1 : (⟨w.heap.size, 1, none⟩ : Addr) ≠ ⟨w.heap.size, 0, none⟩ := by simp
  have n0 : (⟨w.heap.size, 0, none⟩ : Addr) ≠ ⟨w.heap.size, 1, none⟩ := by simp
  have r0 : ((w3.setCell ⟨w.heap.size, 0, none⟩ (.int .i64 (Ky.dec [b0, b1, b2, b3, b4, b5, b6, b7]))).setCell ⟨w.heap.size, 1, none⟩ (.string ⟨r.toArray⟩)).cell? ⟨w.heap.size, 0, none⟩ = some (.int .i64 (Ky.dec [b0, b1, b2, b3, b4, b5, b6, b7])) := by
    rw [World.cell?_setCell_other (h := n1)]; exact World.cell?_setCell_same w3 ⟨w.heap.size, 0, none⟩ _ c0
  have r1 : ((w3.setCell ⟨w.heap.size, 0, none⟩ (.int .i64 (Ky.dec [b0, b1, b2, b3, b4, b5, b6, b7]))).setCell ⟨w.heap.size, 1, none⟩ (.string ⟨r.toArray⟩)).cell? ⟨w.heap.size, 1, none⟩ = some (.string ⟨r.toArray⟩) := by
    refine World.cell?_setCell_same _ _ _ (u := .string ⟨#[]⟩) ?_
    rw [World.cell?_setCell_other (h := n0)]; exact c1
  have hbz : Below w.heap.size w ((w3.setCell ⟨w.heap.size, 0, none⟩ (.int .i64 (Ky.dec [b0, b1, b2, b3, b4, b5, b6, b7]))).setCell ⟨w.heap.size, 1, none⟩ (.string ⟨r.toArray⟩)) := (HBF.out.setCell (p := ⟨w.heap.size, 0, none⟩) (Nat.le_refl _) _).setCell (p := ⟨w.heap.size, 1, none⟩) (Nat.le_refl _) _
  obtain ⟨WZ, hWZ⟩ : ∃ WZ, WZ = (w3.setCell ⟨w.heap.size, 0, none⟩ (.int .i64 (Ky.dec [b0, b1, b2, b3, b4, b5, b6, b7]))).setCell ⟨w.heap.size, 1, none⟩ (.string ⟨r.toArray⟩) := ⟨_, rfl⟩
  rw [← hWZ] at r0 r1 hbz ⊢
  clear hWZ
  clear c0 c1 f0 f1 n0 n1
  clear HC HG HCl hcut
  go_wp2
  exact bodyPost_ret (v := .tuple #[entV (Ky.dec [b0, b1, b2, b3, b4, b5, b6, b7]) r, .int .i64 0]) (by simp [results, Try.results15, go_sem, r0, r1]) rfl ⟨rfl, hbz⟩
end Go.Proofs.Ytakgpljpdcjmfaa
