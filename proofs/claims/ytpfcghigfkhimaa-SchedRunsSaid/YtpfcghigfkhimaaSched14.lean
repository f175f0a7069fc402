/- The checker's Give and Take. -/
import Derived.Test.YtpfcghigfkhimaaSched13
namespace Go.Proofs.Ytpfcghigfkhimaa
open Go.RowKit

theorem wkV_one (o : Option Int) : ∀ u ∈ wkV o, u.oneCell' = true := by
  intro u hu
  simp only [wkV, List.mem_cons, List.not_mem_nil, or_false] at hu
  rcases hu with rfl | rfl <;> rfl
theorem Try.sizeWk (i : Int) (b : Bool) : (Try.prog.info? 51).map (·.size) = some (#[Value.int .i64 i, .bool b]).size := by kernel_rfl
theorem refGive_out (a : Option Addr) (c : Nat) (st : List (Option Int)) (v id : Int) (hn : st.length ≤ 16) (hv : inB st v = false) (w : World) :
    Calls Try.prog 15 #[.slice a st.length c, .int .i64 v, .int .i64 id] w fun e w' => e = .returned (.tuple #[.slice a st.length c, .int .i64 10]) ∧ w = w' := by
  unfold inB at hv
  rw [decide_eq_false_iff_not] at hv
  by_cases h0 : v < 0
  · clear hv
    go_enter Try.func15, Try.ntmps15
    go_wp2
    go_ret2
    exact ⟨rfl, rfl⟩
  · have h1 : (st.length : Int) ≤ v := by omega
    clear hv
    go_enter Try.func15, Try.ntmps15
    go_wp2
    go_ret2
    exact ⟨rfl, rfl⟩
section
variable (a : Option Addr) (c : Nat) (st : List (Option Int)) (i : Nat)
theorem refGive_full (id d : Int) (hn : st.length ≤ 16) (hi : i < st.length) (hx : st[i]? = some (some d)) (w : World) (h : Rd w 2 a st.length c (wksV st)) :
    Calls Try.prog 15 #[.slice a st.length c, .int .i64 (i : Int), .int .i64 id] w fun e w' => e = .returned (.tuple #[.slice a st.length c, .int .i64 16]) ∧ w = w' := by
  obtain ⟨b, o, rfl, x0, x1⟩ := wk_at h hx
  have k0 : (0 : Int) ≤ (i : Int) := by omega
  have k1 : (i : Int) < (st.length : Int) := by omega
  simp only [Option.getD_some, Option.isSome_some] at x0 x1
  clear h hx
  go_enter Try.func15, Try.ntmps15
  go_wp2
  go_ret2
  exact ⟨rfl, rfl⟩
theorem refGive_there (id : Int) (hn : st.length ≤ 16) (hi : i < st.length) (hx : st[i]? = some none) (hm : some id ∈ st) (w : World) (h : Rd w 2 a st.length c (wksV st)) :
    Calls Try.prog 15 #[.slice a st.length c, .int .i64 (i : Int), .int .i64 id] w fun e w' => e = .returned (.tuple #[.slice a st.length c, .int .i64 15]) ∧ w = w' := by
  have HD := Lib.hid (refDoes_any a c st id hn w h)
  have hmd : decide (some id ∈ st) = true := decide_eq_true hm
  rw [hmd] at HD
  obtain ⟨b, o, rfl, x0, x1⟩ := wk_at h hx
  have k0 : (0 : Int) ≤ (i : Int) := by omega
  have k1 : (i : Int) < (st.length : Int) := by omega
  simp only [Option.getD_none, Option.isSome_none] at x0 x1
  clear h hx hmd hm
  go_enter Try.func15, Try.ntmps15
  go_wp2_with (go_at_call 24; refine HD.out.mono ?_; rintro e w1 ⟨rfl, rfl⟩)
  go_ret2
  exact ⟨rfl, rfl⟩
/-- The cells of a list that was written anew. -/
def Anew (w w' : World) (e : Ending) (st' : List (Option Int)) (f : Value → Value) : Prop := ∃ a' c', e = .returned (f (.slice a' st'.length c')) ∧ Rd w' 2 a' st'.length c' (wksV st') ∧ Below w.heap.size w w'
end
/-- Two cells of a worker of one's own list may be written. -/
theorem wk_there {w : World} {F : Foot} {b o c : Nat} {st : List (Option Int)} (h : Sl w 2 F (some ⟨b, o, none⟩) st.length c (wksV st)) (i : Nat) (hi : i < st.length) :
    ∃ u v, w.cell? ⟨b, o + i * 2, none⟩ = some u ∧ w.frozen? ⟨b, o + i * 2, none⟩ = false ∧ w.cell? ⟨b, o + i * 2 + 1, none⟩ = some v ∧ w.frozen? ⟨b, o + i * 2 + 1, none⟩ = false := by
  have hle := h.le
  obtain ⟨b', o', e, _, _, g3⟩ := h.addr (by omega)
  cases e
  obtain ⟨u1, f1⟩ := g3 (i * 2) (by omega)
  obtain ⟨u2, f2⟩ := g3 (i * 2 + 1) (by omega)
  obtain ⟨u, hu⟩ := Option.isSome_iff_exists.1 u1
  obtain ⟨v, hv⟩ := Option.isSome_iff_exists.1 u2
  rw [← Nat.add_assoc] at hv f2
  exact ⟨u, v, hu, f1, hv, f2⟩
theorem wk_put {w0 w : World} {F : Foot} {b o c : Nat} {st : List (Option Int)} (h : Sl w 2 F (some ⟨b, o, none⟩) st.length c (wksV st)) (hf : Fr noCells w0 w) (hg : Grew w0 noCells F) (i : Nat) (hi : i < st.length) (x : Option Int) :
    Rd ((w.setCell ⟨b, o + i * 2, none⟩ (.int .i64 (x.getD 0))).setCell ⟨b, o + i * 2 + 1, none⟩ (.bool x.isSome)) 2 (some ⟨b, o, none⟩) st.length c (wksV (st.set i x)) ∧ Below w0.heap.size w0 ((w.setCell ⟨b, o + i * 2, none⟩ (.int .i64 (x.getD 0))).setCell ⟨b, o + i * 2 + 1, none⟩ (.bool x.isSome)) := by
  have h2 := Sl.put h (by decide) i hi (wkV x) rfl (wkV_one _) _ (wksV_set st i hi x)
  refine ⟨h2.2.1.rd, ?_⟩
  have h3 : Below w0.heap.size w0 w := hf.below (Nat.le_refl _) (fun _ _ h => h.elim)
  refine h3.trans (h2.2.2.below h3.size fun b o hb => ?_)
  rcases hg b o hb with h | h
  · exact h.elim
  · exact h
section
variable (a : Option Addr) (c : Nat) (st : List (Option Int)) (i : Nat)
set_option maxHeartbeats 1000000 in
theorem refGive_ok (id : Int) (hn : st.length ≤ 16) (hi : i < st.length) (hx : st[i]? = some none) (hm : some id ∉ st) (w : World) (h : Rd w 2 a st.length c (wksV st)) :
    Calls Try.prog 15 #[.slice a st.length c, .int .i64 (i : Int), .int .i64 id] w fun e w' => Anew w w' e (st.set i (some id)) fun v => .tuple #[v, .int .i64 0] := by
  obtain ⟨i0, hii, hz0, hz1, hz2⟩ := info_parts Try.infoWk
  have HD := Lib.hid (refDoes_any a c st id hn w h)
  have hmd : decide (some id ∈ st) = false := decide_eq_false hm
  rw [hmd] at HD
  have HR := Lib.hid h
  obtain ⟨b, o, rfl, x0, x1⟩ := wk_at h hx
  have k0 : (0 : Int) ≤ (i : Int) := by omega
  have k1 : (i : Int) < (st.length : Int) := by omega
  simp only [Option.getD_none, Option.isSome_none] at x0 x1
  clear h hx hmd hm
  go_enter Try.func15, Try.ntmps15
  go_wp2_with (first
    | (go_at_call 24; refine HD.out.mono ?_; rintro e w1 ⟨rfl, rfl⟩)
    | (at_builtin; refine wpList_app_sl rfl (.tmp 28) (.tmp 29) 41 rfl 51 i0 _ 2 16 Try.underlying41 hii hz0 hz1 hz2 rfl (by decide) noCells none 0 0 [] rfl (Sl.none_ _ 2) (fun _ _ h => h.elim) (some ⟨b, o, none⟩) st.length c (wksV st) rfl HR.out st.length (wksV st) (by omega) rfl (by unfold maxLen; omega) (by omega) ?_; intro a1 c1 w1 F1 hsl hfr hgr hli; have H1 := Lib.hid (And.intro hsl (And.intro hfr (And.intro hgr hli))); clear hsl hfr hgr hli x0 x1; obtain ⟨b1, o1, rfl, g1, g2, g3⟩ := H1.out.1.addr (by omega); clear g1 g2 g3; obtain ⟨u, v, y0, y1, y2, y3⟩ := wk_there H1.out.1 i hi))
  go_ret2
  obtain ⟨r1, r2⟩ := wk_put H1.out.1 H1.out.2.1 H1.out.2.2.1 i hi (some id)
  unfold Anew
  rw [List.length_set]
  exact ⟨_, _, rfl, r1, r2⟩
theorem refTake_out (v : Int) (hn : st.length ≤ 16) (hv : inB st v = false) (w : World) :
    Calls Try.prog 16 #[.slice a st.length c, .int .i64 v] w fun e w' => e = .returned (.tuple #[.slice a st.length c, .int .i64 0, .int .i64 10]) ∧ w = w' := by
  unfold inB at hv
  rw [decide_eq_false_iff_not] at hv
  by_cases h0 : v < 0
  · clear hv
    go_enter Try.func16, Try.ntmps16
    go_wp2
    go_ret3
    exact ⟨rfl, rfl⟩
  · have h1 : (st.length : Int) ≤ v := by omega
    clear hv
    go_enter Try.func16, Try.ntmps16
    go_wp2
    go_ret3
    exact ⟨rfl, rfl⟩
theorem refTake_none (hn : st.length ≤ 16) (hi : i < st.length) (hx : st[i]? = some none) (w : World) (h : Rd w 2 a st.length c (wksV st)) :
    Calls Try.prog 16 #[.slice a st.length c, .int .i64 (i : Int)] w fun e w' => e = .returned (.tuple #[.slice a st.length c, .int .i64 0, .int .i64 14]) ∧ w = w' := by
  obtain ⟨b, o, rfl, x0, x1⟩ := wk_at h hx
  have k0 : (0 : Int) ≤ (i : Int) := by omega
  have k1 : (i : Int) < (st.length : Int) := by omega
  simp only [Option.getD_none, Option.isSome_none] at x0 x1
  clear h hx
  go_enter Try.func16, Try.ntmps16
  go_wp2
  go_ret3
  exact ⟨rfl, rfl⟩
set_option maxHeartbeats 1000000 in
theorem refTake_some (d : Int) (hn : st.length ≤ 16) (hi : i < st.length) (hx : st[i]? = some (some d)) (w : World) (h : Rd w 2 a st.length c (wksV st)) :
    Calls Try.prog 16 #[.slice a st.length c, .int .i64 (i : Int)] w fun e w' => Anew w w' e (st.set i none) fun v => .tuple #[v, .int .i64 d, .int .i64 0] := by
  obtain ⟨i0, hii, hz0, hz1, hz2⟩ := info_parts Try.infoWk
  have HR := Lib.hid h
  have HX := Lib.hid hx
  obtain ⟨b, o, rfl, x0, x1⟩ := wk_at h hx
  have k0 : (0 : Int) ≤ (i : Int) := by omega
  have k1 : (i : Int) < (st.length : Int) := by omega
  simp only [Option.getD_some, Option.isSome_some] at x0 x1
  clear h hx
  go_enter Try.func16, Try.ntmps16
  go_wp2_with (first
    | (at_builtin; refine wpList_app_sl rfl (.tmp 24) (.tmp 25) 41 rfl 51 i0 _ 2 16 Try.underlying41 hii hz0 hz1 hz2 rfl (by decide) noCells none 0 0 [] rfl (Sl.none_ _ 2) (fun _ _ h => h.elim) (some ⟨b, o, none⟩) st.length c (wksV st) rfl HR.out st.length (wksV st) (by omega) rfl (by unfold maxLen; omega) (by omega) ?_; intro a1 c1 w1 F1 hsl hfr hgr hli; have H1 := Lib.hid (And.intro hsl (And.intro hfr (And.intro hgr hli))); clear hsl hfr hgr hli x0 x1; obtain ⟨b1, o1, rfl, g1, g2, g3⟩ := H1.out.1.addr (by omega); clear g1 g2 g3; obtain ⟨u, v, y0, y1, y2, y3⟩ := wk_there H1.out.1 i hi))
  obtain ⟨r1, r2⟩ := wk_put H1.out.1 H1.out.2.1 H1.out.2.2.1 i hi none
  simp only [Option.getD_none, Option.isSome_none] at r1 r2
  generalize ((w1.setCell ⟨b1, o1 + i * 2, none⟩ (.int .i64 0)).setCell ⟨b1, o1 + i * 2 + 1, none⟩ (.bool false)) = W at *
  have HW := Lib.hid (And.intro r1 r2)
  obtain ⟨b', o', e', x0, x1⟩ := wk_at (HR.out.later HW.out.2) HX.out
  obtain ⟨rfl, rfl⟩ : b = b' ∧ o = o' := (by simp at e'; exact e')
  simp only [Option.getD_some, Option.isSome_some] at x0 x1
  clear r1 r2 y0 y1 y2 y3 e'
  go_quiet (fail)
  go_wp2
  go_ret3
  unfold Anew
  rw [List.length_set]
  obtain ⟨r1, r2⟩ := HW.out
  exact ⟨_, _, rfl, r1.later ⟨rfl, rfl, rfl, Nat.le_refl _, fun _ _ => rfl⟩, r2.trans ⟨rfl, rfl, rfl, Nat.le_refl _, fun _ _ => rfl⟩⟩
end
end Go.Proofs.Ytpfcghigfkhimaa
