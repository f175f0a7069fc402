/- Joined: Law43. -/
import Derived.Test.YtbempjkkohjnbaaYRes
import Derived.Test.YtbempjkkohjnbaaYTree36
import Derived.Test.YtbempjkkohjnbaaYShape
/- Two lists that may share what they read; a tree with its shape; a tree's copy. -/
namespace Go.Proofs.Ytbempjkkohjnbaa
open Go.RowKit Tr
open Ky (less)
/-- Two lists whose pairs may lie in the same cells: none of the document's calls writes there. -/
def PairLR (r s : Nat) (L1 L2 : List Pr) : Rs where
  R w F := ∃ F1 a1 c1 F2 a2 c2, Lst w r F1 a1 c1 L1 ∧ Lst w s F2 a2 c2 L2 ∧ (∀ x, ¬ F1 s x) ∧ (∀ x, ¬ F2 r x) ∧ r ≠ s ∧ F = fun k x => lstF r F1 k x ∨ lstF s F2 k x
  fr := fun ⟨F1, a1, c1, F2, a2, c2, h1, h2, h3, h4, h5, hF⟩ hf ha => ⟨F1, a1, c1, F2, a2, c2, h1.fr hf (fun b o h => ha b o (by rw [hF]; exact .inl h)), h2.fr hf (fun b o h => ha b o (by rw [hF]; exact .inr h)), h3, h4, h5, hF⟩
  lies := fun ⟨F1, a1, c1, F2, a2, c2, h1, h2, _, _, _, hF⟩ b o h => by
    rw [hF] at h
    rcases h with h | h
    · exact h1.lies b o h
    · exact h2.lies b o h
def TreeGR (b o h : Nat) (g : G) : Rs where
  R w F := TreeAt w b o h g ∧ F = treeF b h g
  fr := fun ⟨t, hF⟩ hf ha => ⟨t.fr hf (by rw [← hF]; exact ha), hF⟩
  lies := fun ⟨t, hF⟩ => by rw [hF]; exact t.m.lies
section
variable {B : Nat} {w0 w : World} {X : List Rs} {b o q r s hh : Nat} {L L1 L2 : List Pr} {g : G}
theorem own_treeG (h : Own B w0 (TreeR b o L :: X) w) : ∃ hh g, flat hh g = L ∧ Own B w0 (TreeGR b o hh g :: X) w := by
  obtain ⟨hB, hb0, F, ⟨F1, F2, e, ha, ⟨hh, g, t, e', hF⟩, h3⟩, h2⟩ := h
  exact ⟨hh, g, e', hB, hb0, F, ⟨F1, F2, e, ha, ⟨t, hF⟩, h3⟩, h2⟩
theorem own_treeR (h : Own B w0 (TreeGR b o hh g :: X) w) (e : flat hh g = L) : Own B w0 (TreeR b o L :: X) w := h.imp (fun _ hR => ⟨hh, g, hR.1, e, hR.2⟩)
theorem own_copyG (h : Own B w0 (TreeGR b o hh g :: X) w) :
    Calls Try.prog 41 #[ptrV b] w fun e V => ∃ b' g', e = .returned (ptrV b') ∧ Like hh g g' ∧ Own B w0 (TreeGR b' o hh g' :: TreeGR b o hh g :: X) V := by
  obtain ⟨F1, ⟨t, rfl⟩, _, _⟩ := h.open1
  refine (copyT_any b o hh g w t).mono ?_
  rintro e V ⟨b', g', rfl, h1, h2, h3, h4⟩
  exact ⟨b', g', rfl, h2, h.add h3 (F := treeF b' hh g') ⟨h1, rfl⟩ h4⟩
theorem own_copyT (h : Own B w0 (TreeR b o L :: X) w) :
    Calls Try.prog 41 #[ptrV b] w fun e V => ∃ b', e = .returned (ptrV b') ∧ Own B w0 (TreeR b' o L :: TreeR b o L :: X) V := by
  obtain ⟨hh, g, e, hO⟩ := own_treeG h
  refine (own_copyG hO).mono ?_
  rintro e' V ⟨b', g', rfl, h2, h3⟩
  exact ⟨b', rfl, (own_treeR (own_treeR h3 (by rw [h2.flat, e])).swap e).swap⟩
theorem own_shapeG (h : Own B w0 (TreeGR b o hh g :: X) w) (hn : (flat hh g).length ≤ 100000) :
    Calls Try.prog 23 #[ptrV b] w fun e V => ∃ xa xc, e = .returned (.slice xa (hh + 1) xc) ∧ Shp w.heap.size V xa xc (lv hh [g]) ∧ Below w.heap.size w V := by
  obtain ⟨F1, ⟨t, rfl⟩, _, _⟩ := h.open1
  exact shape_any b o hh _ g (Nat.le_refl _) hn w t
theorem own_pairTo (h : Own B w0 (PairLR q r L1 L :: X) w) : ∃ F a c, Lst w r F a c L ∧ ∀ V L', LstTo w r F L' V → Own B w0 (PairLR q r L1 L' :: X) V := by
  obtain ⟨F0, ⟨F1, a1, c1, F2, a2, c2, h1, h2, h3, h4, h5, rfl⟩, _, hk⟩ := h.open1
  refine ⟨F2, a2, c2, h2, fun V L' ⟨F2', a2', c2', g1, g2, g3⟩ => ?_⟩
  have hq : q < w.heap.size := block_of_cell h1.c0
  refine hk V [PairLR q r L1 L'] ⟨fun k x => lstF q F1 k x ∨ lstF r F2' k x, SepF.one ⟨F1, a1, c1, F2', a2', c2', h1.fr g2 (fun k x hx e => ?_), g1, h3, fun x hx => ?_, h5, rfl⟩, g2.mono (fun k x e => .inr (.inl e)), fun k x hx => ?_⟩
  · subst e
    rcases hx with hx | hx
    · exact h5 hx.symm
    · exact h3 x hx
  · rcases g3 with rfl | g3
    · exact h4 x hx
    · have := g3 q x hx; omega
  · rcases hx with hx | hx | hx
    · exact .inl (.inl hx)
    · exact .inl (.inr (.inl hx))
    · rcases g3 with rfl | g3
      · exact .inl (.inr (.inr hx))
      · exact .inr (g3 k x hx)
theorem own_share (h : Own B w0 (LstR r L :: X) w) (t : TypeId) : ∃ a c, w.cell? ⟨r, 0, none⟩ = some (.slice a L.length c) ∧ Own B w0 (PairLR r w.heap.size L L :: X) (w.alloc (.cells #[.slice a L.length c] t)) := by
  obtain ⟨F0, ⟨F, a, c, l, rfl⟩, _, hk⟩ := h.open1
  have hr : r < w.heap.size := block_of_cell l.c0
  refine ⟨a, c, l.c0, hk _ [PairLR r w.heap.size L L] ⟨fun k x => lstF r F k x ∨ lstF w.heap.size F k x, SepF.one ⟨F, a, c, F, a, c, l.later (al1 w _), ⟨by simp, by simp, l.sl.laid _, fun x hx => Nat.lt_irrefl _ (l.lf _ _ hx), l.lf.laid _⟩, fun x hx => Nat.lt_irrefl _ (l.lf _ _ hx), l.rf, by omega, rfl⟩, Fr.ofBelow (al1 w _) _, fun k x hx => ?_⟩⟩
  rcases hx with hx | hx | hx
  · exact .inl hx
  · exact .inr (by omega)
  · exact .inl (.inr hx)
theorem own_sameP1 (h : Own B w0 (TreeR b o L :: PairLR r s L L2 :: X) w) (hn : L.length ≤ 900000) :
    Calls Try.prog 21 #[ptrV b, ptrV r] w fun e V => e = .returned (.bool true) ∧ Below w.heap.size w V := by
  obtain ⟨F1, F2, ⟨hh, g, t, e, rfl⟩, ⟨G1, a1, c1, G2, a2, c2, h1, h2, _⟩, _⟩ := h.open2
  exact same_any b o hh g r G1 a1 c1 L w t e h1 hn
theorem own_sameP2 (h : Own B w0 (TreeR b o L :: PairLR r s L1 L :: X) w) (hn : L.length ≤ 900000) :
    Calls Try.prog 21 #[ptrV b, ptrV s] w fun e V => e = .returned (.bool true) ∧ Below w.heap.size w V := by
  obtain ⟨F1, F2, ⟨hh, g, t, e, rfl⟩, ⟨G1, a1, c1, G2, a2, c2, h1, h2, _⟩, _⟩ := h.open2
  exact same_any b o hh g s G2 a2 c2 L w t e h2 hn
theorem own_putP (key v : Str) (h : Own B w0 (PairLR q r L1 L :: X) w) (hn : L.length ≤ 100000) :
    Calls Try.prog 48 #[ptrV r, .string ⟨key.toArray⟩, .string ⟨v.toArray⟩] w fun e V => e = .returned (.tuple #[.string ⟨(putO key v L).toArray⟩, .bool (putI key v L), .int .i64 (putC key v)]) ∧ Own B w0 (PairLR q r L1 (putL key v L) :: X) V := by
  obtain ⟨F, a, c, l, hk⟩ := own_pairTo h
  unfold putO putI putC putL
  cases hk1 : okTk key with
  | false =>
    refine (putD_bad r key v hk1 w).mono ?_
    rintro e V ⟨rfl, rfl⟩
    exact ⟨rfl, h⟩
  | true =>
    by_cases hv : v.length ≤ 256
    · simp only [hv, decide_true, Bool.and_self, if_true]
      cases hg : get key L with
      | none =>
        refine (putD_new r F a c L key v hg hk1 hv hn w l).mono ?_
        rintro e V ⟨rfl, ht⟩
        exact ⟨by unfold oldS; rw [hg]; rfl, hk _ _ ht⟩
      | some u =>
        refine (putD_found r F a c L key v u hg hk1 hv hn w l).mono ?_
        rintro e V ⟨rfl, ht⟩
        exact ⟨by unfold oldS; rw [hg]; rfl, hk _ _ ht⟩
    · refine (putD_long r key v hk1 (by omega) w).mono ?_
      rintro e V ⟨rfl, rfl⟩
      simp only [hv, decide_false, Bool.and_false, if_false, if_true]
      exact ⟨rfl, h⟩
theorem own_delP (key : Str) (h : Own B w0 (PairLR q r L1 L :: X) w) (hn : L.length ≤ 100000) :
    Calls Try.prog 49 #[ptrV r, .string ⟨key.toArray⟩] w fun e V => e = .returned (.tuple #[.string ⟨(getO key L).toArray⟩, .int .i64 (getC key L)]) ∧ Own B w0 (PairLR q r L1 (delL key L) :: X) V := by
  obtain ⟨F, a, c, l, hk⟩ := own_pairTo h
  unfold getO getC delL
  cases hk1 : okTk key with
  | false =>
    refine (delD_bad r key hk1 w).mono ?_
    rintro e V ⟨rfl, rfl⟩
    exact ⟨rfl, h⟩
  | true =>
    cases hg : get key L with
    | none =>
      refine (delD_none r F a c L key hk1 hg hn w l).mono ?_
      rintro e V ⟨rfl, hb⟩
      refine ⟨by unfold oldS cdel; rw [hg]; rfl, ?_⟩
      rw [if_pos rfl, del_none hg]
      exact hk _ _ (l.stay hb)
    | some u =>
      refine (delD_found r F a c L key u hk1 hg hn w l).mono ?_
      rintro e V ⟨rfl, ht⟩
      exact ⟨by unfold oldS cdel; rw [hg]; rfl, hk _ _ ht⟩
theorem own_getP (key : Str) (h : Own B w0 (PairLR q r L1 L :: X) w) (hn : L.length ≤ 100000) :
    Calls Try.prog 50 #[ptrV r, .string ⟨key.toArray⟩] w fun e V => e = .returned (.tuple #[.string ⟨(getO key L).toArray⟩, .int .i64 (getC key L)]) ∧ Below w.heap.size w V := by
  obtain ⟨F, a, c, l, hk⟩ := own_pairTo h
  unfold getO getC
  cases hk1 : okTk key with
  | false =>
    refine (getD_bad r key hk1 w).mono ?_
    rintro e V ⟨rfl, rfl⟩
    exact ⟨rfl, Below.refl _ _⟩
  | true => exact getD_any r F a c L key hk1 (by omega) w l
set_option maxHeartbeats 2000000 in
set_option maxRecDepth 100000 in
theorem own_doesP (ask : Int) (key v : Str) (h : Own B w0 (TreeR b o L :: PairLR q r L1 L :: X) w) (hn : L.length ≤ 100000) :
    Calls Try.prog 30 #[ptrV b, ptrV r, .agg #[.int .i64 ask, .string ⟨key.toArray⟩, .string ⟨v.toArray⟩]] w fun e V => e = .returned (.bool true) ∧ Own B w0 (TreeR b o (stepL ask key v L) :: PairLR q r L1 (stepL ask key v L) :: X) V := by
  obtain ⟨W, hW⟩ : ∃ W, w.alloc (.cells #[.int .i64 ask, .string ⟨key.toArray⟩, .string ⟨v.toArray⟩] 58) = W := ⟨_, rfl⟩
  have h0 := own_cells h #[.int .i64 ask, .string ⟨key.toArray⟩, .string ⟨v.toArray⟩] 58
  rw [hW] at h0
  have HT := Lib.hid h0.swap
  have x0 := own_cell h0 (i := 0) rfl
  have x1 := own_cell h0 (i := 1) rfl
  have x2 := own_cell h0 (i := 2) rfl
  obtain ⟨oo, ho⟩ : ∃ x, putO key v L = x := ⟨_, rfl⟩
  obtain ⟨oi, hoi⟩ : ∃ x, putI key v L = x := ⟨_, rfl⟩
  obtain ⟨oc, hoc⟩ : ∃ x, putC key v = x := ⟨_, rfl⟩
  obtain ⟨go, hgo⟩ : ∃ x, getO key L = x := ⟨_, rfl⟩
  obtain ⟨gc, hgc⟩ : ∃ x, getC key L = x := ⟨_, rfl⟩
  have q1 := eql_self 9 oo
  have q2 := eql_self 9 go
  have HC0 : Hid (Calls Try.prog 19 #[ptrV b, .string ⟨key.toArray⟩, .string ⟨v.toArray⟩] W fun e V => e = .returned (.tuple #[.string ⟨oo.toArray⟩, .bool oi, .int .i64 oc]) ∧ (V.cell? ⟨w.heap.size, 1, none⟩ = some (.string ⟨key.toArray⟩) ∧ V.cell? ⟨w.heap.size, 2, none⟩ = some (.string ⟨v.toArray⟩)) ∧ Hid (Own B w0 (PairLR q r L1 L :: TreeR b o (putL key v L) :: X) V)) := Lib.hid (by
    refine (own_put key v HT.out hn).mono ?_
    rintro e V ⟨rfl, t⟩
    exact ⟨by rw [ho, hoi, hoc], ⟨own_cell t.swap (i := 1) rfl, own_cell t.swap (i := 2) rfl⟩, Lib.hid t.swap.drop.swap⟩)
  have HD0 : Hid (∀ V, Own B w0 (PairLR q r L1 L :: TreeR b o (putL key v L) :: X) V → Calls Try.prog 48 #[ptrV r, .string ⟨key.toArray⟩, .string ⟨v.toArray⟩] V fun e V2 => e = .returned (.tuple #[.string ⟨oo.toArray⟩, .bool oi, .int .i64 oc]) ∧ Hid (Own B w0 (TreeR b o (putL key v L) :: PairLR q r L1 (putL key v L) :: X) V2)) := Lib.hid (fun V t => by
    refine (own_putP key v t hn).mono ?_
    rintro e V2 ⟨rfl, h⟩
    exact ⟨by rw [ho, hoi, hoc], Lib.hid h.swap⟩)
  have HC1 : Hid (Calls Try.prog 34 #[ptrV b, .string ⟨key.toArray⟩] W fun e V => e = .returned (.tuple #[.string ⟨go.toArray⟩, .int .i64 gc]) ∧ (V.cell? ⟨w.heap.size, 1, none⟩ = some (.string ⟨key.toArray⟩) ∧ V.cell? ⟨w.heap.size, 2, none⟩ = some (.string ⟨v.toArray⟩)) ∧ Hid (Own B w0 (PairLR q r L1 L :: TreeR b o (delL key L) :: X) V)) := Lib.hid (by
    refine (own_del key HT.out hn).mono ?_
    rintro e V ⟨rfl, t⟩
    exact ⟨by rw [hgo, hgc], ⟨own_cell t.swap (i := 1) rfl, own_cell t.swap (i := 2) rfl⟩, Lib.hid t.swap.drop.swap⟩)
  have HD1 : Hid (∀ V, Own B w0 (PairLR q r L1 L :: TreeR b o (delL key L) :: X) V → Calls Try.prog 49 #[ptrV r, .string ⟨key.toArray⟩] V fun e V2 => e = .returned (.tuple #[.string ⟨go.toArray⟩, .int .i64 gc]) ∧ Hid (Own B w0 (TreeR b o (delL key L) :: PairLR q r L1 (delL key L) :: X) V2)) := Lib.hid (fun V t => by
    refine (own_delP key t hn).mono ?_
    rintro e V2 ⟨rfl, h⟩
    exact ⟨by rw [hgo, hgc], Lib.hid h.swap⟩)
  have HC2 : Hid (Calls Try.prog 33 #[ptrV b, .string ⟨key.toArray⟩] W fun e V => e = .returned (.tuple #[.string ⟨go.toArray⟩, .int .i64 gc]) ∧ (V.cell? ⟨w.heap.size, 1, none⟩ = some (.string ⟨key.toArray⟩) ∧ V.cell? ⟨w.heap.size, 2, none⟩ = some (.string ⟨v.toArray⟩)) ∧ Hid (Own B w0 (PairLR q r L1 L :: TreeR b o L :: X) V)) := Lib.hid (by
    refine (own_get key HT.out).mono ?_
    rintro e V ⟨rfl, hb⟩
    have t := HT.out.later hb
    exact ⟨by rw [hgo, hgc], ⟨own_cell t.swap (i := 1) rfl, own_cell t.swap (i := 2) rfl⟩, Lib.hid t.swap.drop.swap⟩)
  have HD2 : Hid (∀ V, Own B w0 (PairLR q r L1 L :: TreeR b o L :: X) V → Calls Try.prog 50 #[ptrV r, .string ⟨key.toArray⟩] V fun e V2 => e = .returned (.tuple #[.string ⟨go.toArray⟩, .int .i64 gc]) ∧ Hid (Own B w0 (TreeR b o L :: PairLR q r L1 L :: X) V2)) := Lib.hid (fun V t => by
    refine (own_getP key t hn).mono ?_
    rintro e V2 ⟨rfl, hb⟩
    exact ⟨by rw [hgo, hgc], Lib.hid (t.later hb).swap⟩)
  clear h h0 ho hoi hoc hgo hgc hn HT
  by_cases h0 : ask = 0
  · subst h0
    have HE : Hid (stepL 0 key v L = putL key v L) := Lib.hid (by simp [stepL])
    go_enter Try.func30, Try.ntmps30
    go_wp2_with (first
      | (go_at_call 19; refine HC0.out.mono ?_; rintro e V ⟨rfl, ⟨y1, y2⟩, H1⟩)
      | (go_at_call 48; refine (HD0.out _ H1.out).mono ?_; rintro e V2 ⟨rfl, H2⟩))
    go_ret
    rw [HE.out]
    exact ⟨rfl, H2.out⟩
  by_cases h1 : ask = 1
  · subst h1
    have HE : Hid (stepL 1 key v L = delL key L) := Lib.hid (by simp [stepL])
    go_enter Try.func30, Try.ntmps30
    go_wp2_with (first
      | (go_at_call 34; refine HC1.out.mono ?_; rintro e V ⟨rfl, ⟨y1, y2⟩, H1⟩)
      | (go_at_call 49; refine (HD1.out _ H1.out).mono ?_; rintro e V2 ⟨rfl, H2⟩))
    go_ret
    rw [HE.out]
    exact ⟨rfl, H2.out⟩
  · have HE : Hid (stepL ask key v L = L) := Lib.hid (by simp [stepL, h0, h1])
    go_enter Try.func30, Try.ntmps30
    go_wp2_with (first
      | (go_at_call 33; refine HC2.out.mono ?_; rintro e V ⟨rfl, ⟨y1, y2⟩, H1⟩)
      | (go_at_call 50; refine (HD2.out _ H1.out).mono ?_; rintro e V2 ⟨rfl, H2⟩))
    go_ret
    rw [HE.out]
    exact ⟨rfl, H2.out⟩
end
def runF (L : List Pr) (m : List TOp) : List Pr := m.foldl (fun L x => stepL x.1 x.2.1 x.2.2 L) L
theorem runF_succ {L : List Pr} {m : List TOp} {j : Nat} {x : TOp} (h : m[j]? = some x) : runF L (m.take (j + 1)) = stepL x.1 x.2.1 x.2.2 (runF L (m.take j)) := by
  unfold runF
  rw [List.take_add_one, h]
  simp
theorem runF_len (m : List TOp) : ∀ (L : List Pr), (runF L m).length ≤ L.length + m.length := by
  induction m with
  | nil => intro L; exact Nat.le_refl _
  | cons x m ih =>
    intro L
    have h1 := ih (stepL x.1 x.2.1 x.2.2 L)
    have h2 := stepL_len x.1 x.2.1 x.2.2 L
    show (runF (stepL x.1 x.2.1 x.2.2 L) m).length ≤ _
    rw [List.length_cons]
    omega
end Go.Proofs.Ytbempjkkohjnbaa
