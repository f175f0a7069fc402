/- Joined: Tree34. -/
import Derived.Test.YtbempjkkohjnbaaYTreeF
import Derived.Test.YtbempjkkohjnbaaYRes
/- All: what it tells lies in new blocks. -/
namespace Go.Proofs.Ytbempjkkohjnbaa
open Go.RowKit Tr
open Ky (less)
attribute [local go_sem] Oper.semAt_some
set_option maxHeartbeats 4000000 in
set_option maxRecDepth 100000 in
theorem allT_new (b o h : Nat) (g : G) (w : World) (hT : TreeAt w b o h g) (hl : (flat h g).length ≤ 900000) :
    Calls Try.prog 20 #[ptrV b] w fun e V => ∃ (Bx : Nat) (a : Option Addr) (c : Nat), e = .returned (.func (.func 46) #[] #[.pointer (some ⟨Bx, 0, none⟩)]) ∧ V.cell? ⟨Bx, 0, none⟩ = some (.slice a (flat h g).length c) ∧ Rd V 2 a (flat h g).length c (pairsV (flat h g)) ∧ Below w.heap.size w V ∧ w.heap.size ≤ Bx ∧ ∀ x, a = some x → flat h g ≠ [] → w.heap.size ≤ x.block := by
  obtain ⟨i0, hi, hz0, hz1, hz2⟩ := info_parts Try.infoPair
  refine calls_marks Try.func20 rfl ?_
  simp only [Try.ntmps20, List.size_toArray, List.length_cons, List.length_nil, Nat.reduceAdd, Nat.reduceSub, Array.replicate_succ, Array.replicate_zero, List.push_toArray, List.append_toArray, List.nil_append, List.cons_append]
  have hb0 := al1 w (.cells #[.slice none 0 0] 88)
  have y2 := old_cell hT.m.c2 hb0
  have HT := Lib.hid (And.intro hT hl)
  have HWk := Lib.hid (fun w => walkN_any g.b w)
  obtain ⟨W1, hW1⟩ : ∃ W1, w.alloc (.cells #[.slice none 0 0] 88) = W1 := ⟨_, rfl⟩
  rw [hW1] at y2 hb0
  have HW1 := Lib.hid (And.intro hb0 hW1)
  clear hT hl hb0
  gi_wp2_with (refine ⟨trivial, ?_⟩; gi_at_call 45; refine (callsIn_wide.2 (HWk.out _)).mono ?_; rintro e W0 ⟨rfl, hW0⟩)
  have hs0 : W0.heap.size = w.heap.size + 2 := by rw [← hW0, World.size_alloc, ← HW1.out.2, World.size_alloc]
  have hs1 : W1.heap.size = w.heap.size + 1 := by rw [← HW1.out.2, World.size_alloc]
  have hb1 : Below W1.heap.size W1 W0 := by rw [← hW0]; exact al1 W1 _
  have hb2 : Below w.heap.size w W0 := HW1.out.1.trans (hb1.mono HW1.out.1.size)
  have c0 : W1.cell? ⟨w.heap.size, 0, none⟩ = some (.slice none 0 0) := by rw [← HW1.out.2]; simp
  have f0 : W1.frozen? ⟨w.heap.size, 0, none⟩ = false := by rw [← HW1.out.2]; simp
  have c1 : W0.cell? ⟨W1.heap.size, 0, none⟩ = some (ptrV g.b) := by rw [← hW0]; simp
  have hnd := HT.out.1.m.nd
  have hlies := hnd.lies
  have HL := Lib.hid (And.intro hs0 (And.intro hs1 (And.intro hlies hb2)))
  obtain ⟨L, hL⟩ : ∃ L, flat h g = L := ⟨_, rfl⟩
  have HLL := Lib.hid hL
  obtain ⟨v, hv⟩ : ∃ v, w.heap.size = v := ⟨_, rfl⟩
  obtain ⟨u, hu⟩ : ∃ u, W1.heap.size = u := ⟨_, rfl⟩
  have HV := Lib.hid (And.intro hv hu)
  have HSZ := Lib.hid (And.intro hs0 (And.intro hs1 (And.intro hb1 (And.intro hb2 (And.intro hnd hlies)))))
  have hvs : v < W0.heap.size := by omega
  have HS0 := Lib.hid (old_cell c0 hb1)
  have HF0 := Lib.hid ((hb1.frozen (p := ⟨w.heap.size, 0, none⟩) (show w.heap.size < W1.heap.size by omega)).trans f0)
  have HC1 := Lib.hid c1
  rw [hv, hu]
  clear hs0 hs1 hb1 hb2 hnd hlies c0 f0 c1 hL hv hu hW0 hW1
  refine wpIn_range_tells (by omega) (gf := 58) (lb := #[.pointer (some ⟨u, 0, none⟩)]) rfl (enters_any Try.func58 (by kernel_rfl) rfl) (encs := prE) (stops := False) (xs := L)
    (R := fun k => (∃ x, foot h g k x) ∨ k = u) (K0 := fun _ => False) (fun o1 o2 => ?seq) (fun x => rfl) ?rlt (fun k hk => hk.elim)
    (Coll 2 pairsV W0 v) (fun _ _ _ _ => False) (Coll.clos hvs)
    (fun _ _ _ _ _ _ h _ _ => h) (.inr (fun _ _ _ _ h => h)) (Coll.start hvs rfl (by rw [← HV.out.1]; exact HS0.out) (by rw [← HV.out.1]; exact HF0.out))
    (fun x => { tmps := #[ptrV b, undef, .nilFunc, .pointer (some ⟨v, 0, none⟩), .string ⟨x.1.toArray⟩, .string ⟨x.2.toArray⟩, ptrV b,
          .bool true, ptrV b, .pointer (some ⟨b, 0, none⟩), .pointer (some ⟨b, 2, none⟩), ptrV g.b,
          .func (.func 58) #[] #[.pointer (some ⟨u, 0, none⟩)], .string ⟨x.1.toArray⟩, .string ⟨x.2.toArray⟩, undef, undef, undef, undef, undef, undef, undef], defers := [] }) ?assign ?body ?done ?stop
  case seq =>
    obtain ⟨hs0, hs1, hb1, hb2, hnd, hlies⟩ := HSZ.out
    have hvu := HV.out
    have hbo : Below W0.heap.size W0 ((W0.alloc o1).alloc o2) := (al1 W0 o1).trans ((al1 (W0.alloc o1) o2).mono (by simp))
    rw [← HLL.out]
    refine walk_tells o h g u _ _ HT.out.1.good.kids ((hnd.later hb2).later hbo) HT.out.2 (old_cell (by rw [← HV.out.2]; exact HC1.out) hbo) (fun k x hx => .inl ⟨x, hx⟩) (.inr rfl) (fun k hk => ?_)
    have hbs := hbo.size
    rcases hk with ⟨x, hx⟩ | rfl
    · have := hlies k x hx; omega
    · omega
  case rlt =>
    intro k hk
    obtain ⟨hs0, hs1, hb1, hb2, hnd, hlies⟩ := HSZ.out
    have hvu := HV.out
    rcases hk with ⟨x, hx⟩ | rfl
    · have := hlies k x hx; omega
    · omega
  case assign =>
    intro l' x W2 K1 hK1
    simp only [prE]
    gi_wp2
    exact hK1
  case body =>
    rintro l' K pre x post W2 hx _ ⟨F, a, c, h1, h2, h3, h4, h5, h6, h7⟩
    have hn : pre.length + 1 ≤ 900000 := by
      have h1 := HT.out.2
      rw [HLL.out, hx] at h1
      simp at h1
      omega
    have hb3 := al1 W2 (.cells #[.string ⟨x.1.toArray⟩, .string ⟨x.2.toArray⟩] 97)
    have HS := Lib.hid (And.intro h1 (And.intro h2 (And.intro h3 (And.intro h6 h7))))
    have HB3 := Lib.hid hb3
    obtain ⟨n, hnn⟩ : ∃ n, pre.length = n := ⟨_, rfl⟩
    have HN := Lib.hid hnn
    rw [hnn] at h4 hn
    clear h1 h2 h3 h6 h7 hx hb3 hnn
    gi_wp2_with (gi_at_builtin; refine wpListIn_app_sl rfl (.tmp 15) (.tmp 19) 88 rfl 97 i0 _ 2 32 Try.underlying88 hi hz0 hz1 hz2 rfl (by decide) F a n c (pairsV pre) rfl (by have := HS.out.1.laid (.cells #[.string ⟨x.1.toArray⟩, .string ⟨x.2.toArray⟩] 97); rwa [HN.out] at this) (HS.out.2.1.laid _) (some ⟨W2.heap.size, 0, none⟩) 1 1 [.string ⟨x.1.toArray⟩, .string ⟨x.2.toArray⟩] rfl (Rd.twoNew W2 _ _ _ rfl rfl) (n + 1) (pairsV (pre ++ [x])) rfl (by simp [pairsV]) (by unfold maxLen; omega) (by omega) ?_; intro a' c' W3 F' k1 k2 k3 k4; have H3 := Lib.hid (And.intro k1 (And.intro k2 (And.intro k3 k4))); obtain ⟨hc3, hf3⟩ := Coll.after hvs HS.out.2.2.1 h4 h5 HB3.out k2; clear k1 k2 k3 k4)
    obtain ⟨hs0, hs1, hb1, hb2, hnd, hlies⟩ := HSZ.out
    have hvu := HV.out
    have e : (pre ++ [x]).length = n + 1 := by simp [HN.out]
    have hst := Coll.step (V := pairsV) (pre := pre) (x := x) hvs HS.out.2.1 HS.out.2.2.1 HS.out.2.2.2.1 HS.out.2.2.2.2 HB3.out (by rw [e]; exact H3.out.1) H3.out.2.1 H3.out.2.2.1 H3.out.2.2.2 (by rw [h4]; rfl) h5 (fun k => (∃ x, foot h g k x) ∨ k = u) (fun k hk => by
      rcases hk with ⟨x, hx⟩ | rfl
      · have := hlies k x hx; omega
      · omega)
    rw [e] at hst
    exact hst
  case stop =>
    intro D c K pre x post W2 _ h
    exact h.elim
  case done =>
    rintro D K W2 ⟨F, a, c, h1, h2, h3, h4, h5, h6, h7⟩ _ hKD hsD hDef
    gi_wp2
    obtain ⟨hs0, hs1, hb1, hb2, hnd, hlies⟩ := HSZ.out
    have hvu := HV.out
    rw [HLL.out]
    refine leave_marks [D] W2 (by simp) (fun E hE => by simp at hE; subst hE; exact hDef) (fun W' hf => ?_)
    have hvv : ¬ (v ∈ [D]) := by simp; omega
    refine ⟨_, results_tmp rfl _ _ _, v, a, c, rfl, cell_fr hf h4 hvv, (h1.fr hf (fun b o hb hk => ?_)).rd, hb2.trans ?_, by omega, fun x hx hne => ?_⟩
    · simp at hk; subst hk; exact (h3 _ _ hb).2 hKD
    · refine ((h6.trans hf (fun b o hb => .inr ?_)).below (B := w.heap.size) (by omega) (fun k x hk => ?_))
      · simp at hb; subst hb; exact hsD
      · omega
    · have hp : 0 < L.length * 2 := by
        have := List.length_pos_iff.2 hne
        omega
      obtain ⟨b2, o2, rfl, k1, _⟩ := h1.at_ x hx (by have := h1.le; omega)
      have := (h3 _ _ (k1 0 (by have := h1.le; omega))).1
      simp only
      omega
theorem own_all_new {B b o : Nat} {w0 w : World} {X : List Rs} {L : List Pr} (h : Own B w0 (TreeR b o L :: X) w) (hn : L.length ≤ 900000) :
    Calls Try.prog 20 #[ptrV b] w fun e V => ∃ (Bx : Nat) (a : Option Addr) (c : Nat), e = .returned (.func (.func 46) #[] #[.pointer (some ⟨Bx, 0, none⟩)]) ∧ V.cell? ⟨Bx, 0, none⟩ = some (.slice a L.length c) ∧ Rd V 2 a L.length c (pairsV L) ∧ Below w.heap.size w V ∧ w.heap.size ≤ Bx ∧ ∀ x, a = some x → L ≠ [] → w.heap.size ≤ x.block := by
  obtain ⟨F1, ⟨hh, g, t, rfl, rfl⟩, _, _⟩ := h.open1
  exact allT_new b o hh g w t hn
theorem perm3 {A C D : Rs} : [A, C, D].Perm [D, A, C] := (List.Perm.cons A (.swap D C [])).trans (.swap D A [C])
end Go.Proofs.Ytbempjkkohjnbaa
