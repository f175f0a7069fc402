/- Joined: Law10. -/
import Derived.Test.YtbempjkkohjnbaaYLaw6
import Derived.Test.YtbempjkkohjnbaaYTreeF
import Derived.Test.YtbempjkkohjnbaaYCur1
/- The laws of package tree: TreeNil. -/
namespace Go.Proofs.Ytbempjkkohjnbaa
open Go.RowKit Tr
open Ky (less)
attribute [local go_sem] Oper.semAt_some
set_option maxHeartbeats 400000 in
theorem shapeT_nil (w : World) : Calls Try.prog 23 #[.pointer none] w fun e V => e = .returned (.slice none 0 0) ∧ w = V := by
  go_enter Try.func23, Try.ntmps23
  go_wp2
  go_ret
  exact ⟨rfl, rfl⟩
set_option maxHeartbeats 400000 in
theorem copyT_nil (w : World) : Calls Try.prog 41 #[.pointer none] w fun e V => e = .returned (.pointer none) ∧ w = V := by
  go_enter Try.func41, Try.ntmps41
  go_wp2
  go_ret
  exact ⟨rfl, rfl⟩
/-- A loop over nothing. -/
def Nop (W0 : World) (K : Nat → Prop) (_pre : List Pr) (W : World) : Prop := Fr noCells W0 W ∧ ∀ k, K k → W0.heap.size ≤ k
theorem Nop.clos (W0 : World) : Clos (Nop W0) := by
  intro K K' pre W W' ⟨h1, h2⟩ hf hK
  refine ⟨h1.trans hf (fun b o hb => .inr (h2 b hb)), fun k hk => ?_⟩
  rcases hK k hk with h | h
  · exact h2 k h
  · have := h1.size; omega
set_option maxHeartbeats 4000000 in
set_option maxRecDepth 100000 in
theorem treeNil_walk (key v : Str) (w : World) : Calls Try.prog 15 #[.string ⟨key.toArray⟩, .string ⟨v.toArray⟩] w (Yes w) := by
  have HA := Lib.hid (fun W => awake4_any W)
  have hb1 := al1 w (.cells #[.bool false] 4)
  obtain ⟨W, hW⟩ : ∃ W, w.alloc (.cells #[.bool false] 4) = W := ⟨_, rfl⟩
  rw [hW] at hb1
  have c0 : W.cell? ⟨w.heap.size, 0, none⟩ = some (.bool false) := by rw [← hW]; simp
  have f0 : W.frozen? ⟨w.heap.size, 0, none⟩ = false := by rw [← hW]; simp
  have H1 := Lib.hid (And.intro hb1 (And.intro c0 f0))
  by_cases hs : 300 < key.length ∨ 300 < v.length
  · have hcase : (300 : Int) < (key.length : Int) ∨ (¬ (300 : Int) < (key.length : Int) ∧ (300 : Int) < (v.length : Int)) := by omega
    clear hb1 c0 f0 hs
    rcases hcase with h1 | ⟨h0, h1⟩
    · have hd : decide ((300 : Int) < (key.length : Int)) = true := decide_eq_true h1
      refine calls_marks Try.func15 rfl ?_
      simp only [Try.ntmps15, List.size_toArray, List.length_cons, List.length_nil, Nat.reduceAdd, Nat.reduceSub, Array.replicate_succ, Array.replicate_zero, List.push_toArray, List.append_toArray, List.nil_append, List.cons_append]
      gi_wp2_with (refine ⟨trivial, ?_⟩; gi_at_call 18; refine (callsIn_wide.2 (HA.out _)).mono ?_; rintro e V ⟨rfl, hb⟩; have HB := Lib.hid hb; have y0 := old_cell H1.out.2.1 hb; have y1 := (hb.frozen (p := ⟨w.heap.size, 0, none⟩) (block_of_cell H1.out.2.1)).trans H1.out.2.2; clear hb)
      exact leave_none ⟨_, results_bool rfl _ _ w.heap.size (.bool true) rfl (World.cell?_setCell_same' _ _ _ (by rw [y0]; rfl)), rfl, (H1.out.1.trans (HB.out.mono H1.out.1.size)).setCell (p := ⟨w.heap.size, 0, none⟩) (Nat.le_refl _) _⟩
    · have hd : decide ((300 : Int) < (key.length : Int)) = false := decide_eq_false h0
      refine calls_marks Try.func15 rfl ?_
      simp only [Try.ntmps15, List.size_toArray, List.length_cons, List.length_nil, Nat.reduceAdd, Nat.reduceSub, Array.replicate_succ, Array.replicate_zero, List.push_toArray, List.append_toArray, List.nil_append, List.cons_append]
      gi_wp2_with (refine ⟨trivial, ?_⟩; gi_at_call 18; refine (callsIn_wide.2 (HA.out _)).mono ?_; rintro e V ⟨rfl, hb⟩; have HB := Lib.hid hb; have y0 := old_cell H1.out.2.1 hb; have y1 := (hb.frozen (p := ⟨w.heap.size, 0, none⟩) (block_of_cell H1.out.2.1)).trans H1.out.2.2; clear hb)
      exact leave_none ⟨_, results_bool rfl _ _ w.heap.size (.bool true) rfl (World.cell?_setCell_same' _ _ _ (by rw [y0]; rfl)), rfl, (H1.out.1.trans (HB.out.mono H1.out.1.size)).setCell (p := ⟨w.heap.size, 0, none⟩) (Nat.le_refl _) _⟩
  · have h0 : ¬ (300 : Int) < (key.length : Int) := by omega
    have hd : decide ((300 : Int) < (key.length : Int)) = false := decide_eq_false h0
    have h1 : ¬ (300 : Int) < (v.length : Int) := by omega
    have q0 := fun x y w => eql_func_nil Try.underlying35 (.func 46) x y w
    have q1 : binOp .add 9 (.string ⟨#[]⟩) (.string ⟨#[]⟩) = pure (.string ⟨#[]⟩) := cat_run 9 [] [] (by decide)
    have q2 : binOp .eql 9 (.string ⟨#[]⟩) (.string ⟨#[]⟩) = pure (.bool true) := eql_self 9 []
    have HAll := Lib.hid (allT_nil W)
    have HP := Lib.hid (fun W => put_code none key v 2 (.inl rfl) (says_nil key) W)
    have HG := Lib.hid (fun W => get_code none key 2 (.inl rfl) (says_nil key) W)
    have HDl := Lib.hid (fun W => del_code none key 2 (.inl rfl) (says_nil key) W)
    have HC := Lib.hid (fun W => ceil_nil key W)
    have HL := Lib.hid (fun W => lenT_nil W)
    have HSh := Lib.hid (fun W => shapeT_nil W)
    have HCp := Lib.hid (fun W => copyT_nil W)
    clear hb1 c0 f0 hs
    refine calls_marks Try.func15 rfl ?_
    simp only [Try.ntmps15, List.size_toArray, List.length_cons, List.length_nil, Nat.reduceAdd, Nat.reduceSub, Array.replicate_succ, Array.replicate_zero, List.push_toArray, List.append_toArray, List.nil_append, List.cons_append]
    gi_wp2_with (refine ⟨trivial, ?_⟩; gi_at_call 20; refine (callsIn_wide.2 HAll.out).mono ?_; rintro e W0 ⟨rfl, hW0⟩)
    have hsz : W0.heap.size = W.heap.size + 1 := by rw [← hW0]; simp
    have hbW : Below W.heap.size W W0 := by rw [← hW0]; exact al1 W _
    have cB : W0.cell? ⟨W.heap.size, 0, none⟩ = some (.slice none 0 0) := by rw [← hW0]; simp
    have H2 := Lib.hid (And.intro hsz (And.intro hbW cB))
    obtain ⟨u, hu⟩ : ∃ u, W.heap.size = u := ⟨_, rfl⟩
    have HU := Lib.hid hu
    rw [hu]
    clear hW0 hsz hbW cB hu hW
    refine wpIn_range_tells (by omega) (gf := 46) (lb := #[.pointer (some ⟨u, 0, none⟩)]) rfl (enters_any Try.func46 (by kernel_rfl) rfl) (encs := prE) (stops := False) (xs := [])
      (R := fun k => k = u) (K0 := fun _ => False) (fun o1 o2 => ?seq) (fun x => rfl) (fun k hk => by have := H2.out.1; have := HU.out; omega) (fun k hk => hk.elim)
      (Nop W0) (fun _ _ _ _ => False) (Nop.clos W0)
      (fun _ _ _ _ _ _ h _ _ => h) (.inr (fun _ _ _ _ h => h)) ⟨Fr.refl _ _, fun _ h => h.elim⟩
      (fun x => { tmps := #[.string ⟨key.toArray⟩, .string ⟨v.toArray⟩, undef, undef, .pointer (some ⟨w.heap.size, 0, none⟩), .pointer none, (.func (.func 46) #[] #[.pointer (some ⟨u, 0, none⟩)]), undef, undef, undef, undef, undef, undef, undef, undef, undef, undef, .string ⟨key.toArray⟩, .int .i64 key.length, .bool false, .bool false, .string ⟨v.toArray⟩, .int .i64 v.length, .bool false, .bool false, undef, .pointer none, (.func (.func 46) #[] #[.pointer (some ⟨u, 0, none⟩)]), (.func (.func 46) #[] #[.pointer (some ⟨u, 0, none⟩)]), .bool false, (.func (.func 46) #[] #[.pointer (some ⟨u, 0, none⟩)]), .string ⟨x.1.toArray⟩, .string ⟨x.2.toArray⟩, undef, undef, undef, undef, undef, undef, undef, undef, undef, undef, undef, undef, undef, undef, undef, undef, undef, undef, undef, undef, undef, undef, undef, undef, undef, undef, undef, undef, undef, undef, undef, undef, undef, undef, undef, undef, undef, undef, undef, undef, undef, undef, undef, undef, undef, undef, undef, undef, undef, undef, undef, undef, undef, undef, undef, undef, undef, undef, undef, undef, undef, undef, undef, undef, undef, undef, undef, undef, undef, undef, undef, undef, undef, undef, undef, undef, undef, undef, undef], defers := [] }) ?assign ?body ?done ?stop
    case seq =>
      have hbo : Below W0.heap.size W0 ((W0.alloc o1).alloc o2) := (al1 W0 o1).trans ((al1 (W0.alloc o1) o2).mono (by simp))
      refine all1_tells u none 0 [] _ _ (by simp) (old_cell (by rw [← HU.out]; exact H2.out.2.2) hbo) (Rd.nilSlice _ 2) rfl (fun h => absurd rfl h) (fun k hk => ?_)
      have := H2.out.1; have := HU.out; have := hbo.size; omega
    case assign =>
      intro l' x W2 K1 hK1
      simp only [prE]
      gi_wp2
      exact hK1
    case body =>
      intro l' K pre x post W2 hx
      exact absurd hx (by simp)
    case stop =>
      intro D c K pre x post W2 hx
      exact absurd hx (by simp)
    case done =>
      rintro D K W3 ⟨h6, h7⟩ _ hKD hsD hDef
      have hb3 : Below W.heap.size W W3 := H2.out.2.1.trans (h6.below (B := W.heap.size) H2.out.2.1.size (fun _ _ h => h.elim))
      have y0 := old_cell H1.out.2.1 hb3
      have y1 := (hb3.frozen (p := ⟨w.heap.size, 0, none⟩) (block_of_cell H1.out.2.1)).trans H1.out.2.2
      have H3 := Lib.hid (And.intro hb3 (And.intro hsD hDef))
      clear h6 h7 hKD hsD hDef hb3
      gi_wp2_with (first
        | (refine ⟨trivial, ?_⟩; gi_at_call 19; refine (callsIn_wide.2 (HP.out _)).mono ?_; rintro e V ⟨rfl, rfl⟩)
        | (refine ⟨trivial, ?_⟩; gi_at_call 33; refine (callsIn_wide.2 (HG.out _)).mono ?_; rintro e V ⟨rfl, rfl⟩)
        | (refine ⟨trivial, ?_⟩; gi_at_call 34; refine (callsIn_wide.2 (HDl.out _)).mono ?_; rintro e V ⟨rfl, rfl⟩)
        | (refine ⟨trivial, ?_⟩; gi_at_call 32; refine (callsIn_wide.2 (HC.out _)).mono ?_; rintro e V ⟨rfl, rfl⟩)
        | (refine ⟨trivial, ?_⟩; gi_at_call 31; refine (callsIn_wide.2 (HL.out _)).mono ?_; rintro e V ⟨rfl, rfl⟩)
        | (refine ⟨trivial, ?_⟩; gi_at_call 23; refine (callsIn_wide.2 (HSh.out _)).mono ?_; rintro e V ⟨rfl, rfl⟩)
        | (refine ⟨trivial, ?_⟩; gi_at_call 41; refine (callsIn_wide.2 (HCp.out _)).mono ?_; rintro e V ⟨rfl, rfl⟩)
        | (refine ⟨trivial, ?_⟩; gi_at_call 18; refine (callsIn_wide.2 (HA.out _)).mono ?_; rintro e V9 ⟨rfl, hb⟩; have HB := Lib.hid hb; have z0 := old_cell y0 hb; have z1 := (hb.frozen (p := ⟨w.heap.size, 0, none⟩) (block_of_cell y0)).trans y1; clear hb))
      obtain ⟨hb3, hsD, hDef⟩ := H3.out
      have hlt := block_of_cell H1.out.2.1
      have h2 := H2.out.1
      have hlt2 : w.heap.size < W.heap.size := hlt
      have hDs : D < W3.heap.size := (Array.getElem?_eq_some_iff.1 hDef).1
      have hne : D ≠ w.heap.size := by omega
      refine leave_marks [D] _ (by simp) (fun E hE => ?_) (fun W' hf => ?_)
      · simp at hE; subst hE
        exact (Below.heap_setCell V9 ⟨w.heap.size, 0, none⟩ (.bool true) E hne).trans ((HB.out.block E hDs).trans hDef)
      · have hc : W'.cell? ⟨w.heap.size, 0, none⟩ = some (.bool true) := cell_fr hf (show (V9.setCell ⟨w.heap.size, 0, none⟩ (.bool true)).cell? ⟨w.heap.size, 0, none⟩ = some (.bool true) from World.cell?_setCell_same' _ _ _ (by rw [z0]; rfl)) (by simp; omega)
        refine ⟨_, results_bool rfl _ W' w.heap.size (.bool true) rfl hc, rfl, ?_⟩
        have b1 := H1.out.1.trans (hb3.mono H1.out.1.size)
        have b2 := b1.trans (HB.out.mono b1.size)
        have b4 : Below w.heap.size w (V9.setCell ⟨w.heap.size, 0, none⟩ (.bool true)) := b2.setCell (p := ⟨w.heap.size, 0, none⟩) (Nat.le_refl _) _
        exact b4.trans (hf.below (B := w.heap.size) b4.size (fun k x e => by simp at e; subst e; omega))
end Go.Proofs.Ytbempjkkohjnbaa
