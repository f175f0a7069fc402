/- Joined: Res, Res2, Res3. -/
import Derived.Test.YtbempjkkohjnbaaYSep
import Derived.Test.YtbempjkkohjnbaaYLawA
import Derived.Test.YtbempjkkohjnbaaYTreeF
import Derived.Test.YtbempjkkohjnbaaYCur2
import Derived.Test.YtbempjkkohjnbaaYCur3
import Derived.Test.YtbempjkkohjnbaaYTr11
import Derived.Test.YtbempjkkohjnbaaYLaw6
/- A tree, a list and cursors as resources beside each other: what calls do with them. -/
namespace Go.Proofs.Ytbempjkkohjnbaa
open Go.RowKit Tr
open Ky (less)

def TreeR (b o : Nat) (L : List Pr) : Rs where
  R w F := ∃ h g, TreeAt w b o h g ∧ flat h g = L ∧ F = treeF b h g
  fr := fun ⟨h, g, t, e, hF⟩ hf ha => ⟨h, g, t.fr hf (by rw [← hF]; exact ha), e, hF⟩
  lies := fun ⟨h, g, t, e, hF⟩ => by rw [hF]; exact t.m.lies
def LstR (r : Nat) (L : List Pr) : Rs where
  R w F := ∃ F0 a c, Lst w r F0 a c L ∧ F = lstF r F0
  fr := fun ⟨F0, a, c, t, hF⟩ hf ha => ⟨F0, a, c, t.fr hf (by rw [← hF]; exact ha), hF⟩
  lies := fun ⟨F0, a, c, t, hF⟩ => by rw [hF]; exact t.lies
def CurR (c b : Nat) (s t at_ : Str) : Rs where
  R w F := CurAt w c b s t at_ ∧ F = fun k _ => k = c
  fr := fun ⟨t, hF⟩ hf ha => ⟨t.fr hf (fun x => ha c x (by rw [hF])), hF⟩
  lies := fun ⟨t, hF⟩ => by rw [hF]; rintro k x rfl; exact block_of_cell t.c0
section
variable {B : Nat} {w0 w V : World} {L L' X : List Rs} {A C : Rs}
/-- The first one, opened: whatever it is turned to, the others stay. -/
theorem Own.open1 (h : Own B w0 (A :: X) w) : ∃ F1, A.R w F1 ∧ (∀ b o, F1 b o → B ≤ b) ∧ ∀ V L', Turn L' w F1 V → Own B w0 (L' ++ X) V := by
  obtain ⟨hB, hb0, F, ⟨F1, F2, e, ha, h1, h3⟩, h2⟩ := h
  refine ⟨F1, h1, fun b o hb => h2 b o ((e b o).2 (.inl hb)), fun V L' ⟨F1', k1, k2, k3⟩ => ?_⟩
  have hs := Nat.le_trans hB hb0.size
  refine ⟨hB, hb0.trans (k2.below hs (fun b o hb => h2 b o ((e b o).2 (.inl hb)))), fun b o => F1' b o ∨ F2 b o, SepF.join (fun b o => Iff.rfl) ((ha.symm.grew h3.lies k3).symm) k1 (h3.fr k2 ha.symm), fun b o hb => ?_⟩
  rcases hb with hb | hb
  · rcases k3 b o hb with h | h
    · exact h2 b o ((e b o).2 (.inl h))
    · omega
  · exact h2 b o ((e b o).2 (.inr hb))
theorem Own.open2 (h : Own B w0 (A :: C :: X) w) : ∃ F1 F2, A.R w F1 ∧ C.R w F2 ∧ Apart F1 F2 := by
  obtain ⟨hB, hb0, F, ⟨F1, F2, e, ha, h1, ⟨G1, G2, e2, ha2, k1, k2⟩⟩, h2⟩ := h
  exact ⟨F1, G1, h1, k1, fun b o h h' => ha b o h ((e2 b o).2 (.inl h'))⟩
end
section
variable {B : Nat} {w0 w : World} {X : List Rs} {b o r c : Nat} {L : List Pr} {s t at_ : Str}
theorem own_new (o : Nat) (h2 : 2 ≤ o) (h16 : o ≤ 16) (h : Own B w0 X w) :
    Calls Try.prog 17 #[.int .i64 o] w fun e V => ∃ b, e = .returned (.tuple #[ptrV b, .int .i64 0]) ∧ Own B w0 (TreeR b o [] :: X) V := by
  refine (newT_any o h2 h16 w).mono ?_
  rintro e V ⟨b, g, rfl, t1, t2, t3, t4⟩
  exact ⟨b, rfl, h.add t3 (F := treeF b 0 g) ⟨0, g, t1, t2, rfl⟩ t4⟩
theorem own_put (key v : Str) (h : Own B w0 (TreeR b o L :: X) w) (hn : L.length ≤ 100000) :
    Calls Try.prog 19 #[ptrV b, .string ⟨key.toArray⟩, .string ⟨v.toArray⟩] w fun e V => e = .returned (.tuple #[.string ⟨(putO key v L).toArray⟩, .bool (putI key v L), .int .i64 (putC key v)]) ∧ Own B w0 (TreeR b o (putL key v L) :: X) V := by
  obtain ⟨F1, ⟨hh, g, t, e, rfl⟩, _, hk⟩ := h.open1
  unfold putO putI putC putL
  cases hk1 : okTk key with
  | false =>
    refine (put_code _ key v 13 (.inr rfl) (says_key b key hk1) w).mono ?_
    rintro e V ⟨rfl, rfl⟩
    exact ⟨rfl, h⟩
  | true =>
    by_cases hv : v.length ≤ 256
    · refine (tree_put b o hh g key v hk1 hv (by rw [e]; omega) w t).mono ?_
      rintro e' V ⟨rfl, h', g', t1, t2, t3, t4, _⟩
      rw [e] at t2 ⊢
      simp only [hv, decide_true, Bool.and_self, if_true]
      exact ⟨trivial, hk V [TreeR b o _] ⟨treeF b h' g', SepF.one ⟨h', g', t1, t2, rfl⟩, t3, t4⟩⟩
    · refine (put_long b key v hk1 (by omega) w).mono ?_
      rintro e V ⟨rfl, rfl⟩
      simp only [hv, decide_false, Bool.and_false, if_false, if_true]
      exact ⟨rfl, h⟩
theorem own_del (key : Str) (h : Own B w0 (TreeR b o L :: X) w) (hn : L.length ≤ 100000) :
    Calls Try.prog 34 #[ptrV b, .string ⟨key.toArray⟩] w fun e V => e = .returned (.tuple #[.string ⟨(getO key L).toArray⟩, .int .i64 (getC key L)]) ∧ Own B w0 (TreeR b o (delL key L) :: X) V := by
  obtain ⟨F1, ⟨hh, g, t, e, rfl⟩, _, hk⟩ := h.open1
  unfold getO getC delL
  cases hk1 : okTk key with
  | false =>
    refine (del_code _ key 13 (.inr rfl) (says_key b key hk1) w).mono ?_
    rintro e V ⟨rfl, rfl⟩
    exact ⟨rfl, h⟩
  | true =>
    refine (tree_del b o hh g key hk1 (by rw [e]; omega) w t).mono ?_
    rintro e' V ⟨rfl, h', g', t1, t2, t3, t4, _⟩
    rw [e] at t2 ⊢
    exact ⟨rfl, hk V [TreeR b o _] ⟨treeF b h' g', SepF.one ⟨h', g', t1, t2, rfl⟩, t3, t4⟩⟩
theorem own_get (key : Str) (h : Own B w0 (TreeR b o L :: X) w) :
    Calls Try.prog 33 #[ptrV b, .string ⟨key.toArray⟩] w fun e V => e = .returned (.tuple #[.string ⟨(getO key L).toArray⟩, .int .i64 (getC key L)]) ∧ Below w.heap.size w V := by
  obtain ⟨F1, ⟨hh, g, t, e, rfl⟩, _, hk⟩ := h.open1
  unfold getO getC
  cases hk1 : okTk key with
  | false =>
    refine (get_code _ key 13 (.inr rfl) (says_key b key hk1) w).mono ?_
    rintro e V ⟨rfl, rfl⟩
    exact ⟨rfl, Below.refl _ _⟩
  | true =>
    refine (get_walk b o hh g key hk1 w t).mono ?_
    rintro e' V ⟨rfl, hb⟩
    rw [e]
    exact ⟨rfl, hb⟩
theorem own_ceil (key : Str) (h : Own B w0 (TreeR b o L :: X) w) :
    Calls Try.prog 32 #[ptrV b, .string ⟨key.toArray⟩] w fun e V => e = .returned (.tuple #[.string ⟨(ckey (ceil key L)).toArray⟩, .string ⟨(cval (ceil key L)).toArray⟩, .int .i64 (ccode (ceil key L))]) ∧ Below w.heap.size w V := by
  obtain ⟨F1, ⟨hh, g, t, rfl, rfl⟩, _, _⟩ := h.open1
  exact ceil_walk b o hh g key w t
theorem own_sorted (h : Own B w0 (TreeR b o L :: X) w) : Sorted L := by
  obtain ⟨F1, ⟨hh, g, t, rfl, rfl⟩, _, _⟩ := h.open1
  exact t.good.sorted
theorem own_count (h : Own B w0 (TreeR b o L :: X) w) : w.cell? ⟨b, 1, none⟩ = some (.int .i64 (L.length : Nat)) := by
  obtain ⟨F1, ⟨hh, g, t, rfl, rfl⟩, _, _⟩ := h.open1
  exact t.m.c1
theorem own_all (h : Own B w0 (TreeR b o L :: X) w) (hn : L.length ≤ 900000) :
    Calls Try.prog 20 #[ptrV b] w fun e V => ∃ (Bx : Nat) (a : Option Addr) (c : Nat), e = .returned (.func (.func 46) #[] #[.pointer (some ⟨Bx, 0, none⟩)]) ∧ V.cell? ⟨Bx, 0, none⟩ = some (.slice a L.length c) ∧ Rd V 2 a L.length c (pairsV L) ∧ Below w.heap.size w V := by
  obtain ⟨F1, ⟨hh, g, t, rfl, rfl⟩, _, _⟩ := h.open1
  exact allT_any b o hh g w t hn
theorem own_same (h : Own B w0 (TreeR b o L :: LstR r L :: X) w) (hn : L.length ≤ 900000) :
    Calls Try.prog 21 #[ptrV b, ptrV r] w fun e V => e = .returned (.bool true) ∧ Below w.heap.size w V := by
  obtain ⟨F1, F2, ⟨hh, g, t, e, rfl⟩, ⟨F0, a, c, l, rfl⟩, _⟩ := h.open2
  exact same_any b o hh g r F0 a c L w t e l hn
theorem own_curNew (s t : Str) (hl : t = [] ∨ less t s = false) (h : Own B w0 X w) :
    Calls Try.prog 26 #[ptrV b, .string ⟨s.toArray⟩, .string ⟨t.toArray⟩] w fun e V => ∃ c, e = .returned (.tuple #[ptrV c, .int .i64 0]) ∧ Own B w0 (CurR c b s t s :: X) V := by
  refine (newC_ok b s t hl w).mono ?_
  rintro e V ⟨rfl, h1, h2⟩
  exact ⟨_, rfl, h.add h2 (F := fun k _ => k = w.heap.size) ⟨h1, rfl⟩ (fun k x e => by rw [e]; exact Nat.le_refl _)⟩
theorem own_next_stop (h : Own B w0 (CurR c b s t at_ :: TreeR b o L :: X) w) (hr : Tr.rng at_ t L = []) :
    Calls Try.prog 25 #[ptrV c] w fun e V => e = .returned (.tuple #[.string ⟨#[]⟩, .string ⟨#[]⟩, .bool false]) ∧ Below w.heap.size w V := by
  obtain ⟨F1, F2, ⟨hc, rfl⟩, ⟨hh, g, tr, rfl, rfl⟩, _⟩ := h.open2
  rcases rng_step (s := at_) (t := t) tr.good.sorted with ⟨h1, _⟩ | ⟨q, _, _, h3⟩
  · exact nextC_stop c b o hh g s t at_ w tr hc h1
  · rw [h3] at hr; cases hr
theorem own_next_go {q : Pr} {rest : List Pr} (h : Own B w0 (CurR c b s t at_ :: TreeR b o L :: X) w) (hr : Tr.rng at_ t L = q :: rest) (hk : ∀ p ∈ L, p.1.length ≤ 1000) :
    Calls Try.prog 25 #[ptrV c] w fun e V => e = .returned (.tuple #[.string ⟨q.1.toArray⟩, .string ⟨q.2.toArray⟩, .bool true]) ∧ Own B w0 (CurR c b s t (q.1 ++ [0]) :: TreeR b o L :: X) V ∧ Tr.rng (q.1 ++ [0]) t L = rest := by
  obtain ⟨F1, F2, ⟨hc, rfl⟩, ⟨hh, g, tr, e0, rfl⟩, _⟩ := h.open2
  obtain ⟨F1', ⟨_, rfl⟩, _, hk1⟩ := h.open1
  rw [← e0] at hr hk
  rcases rng_step (s := at_) (t := t) tr.good.sorted with ⟨_, h2⟩ | ⟨q', h1, h2, h3⟩
  · rw [h2] at hr; cases hr
  · rw [h3] at hr
    cases hr
    have hm : q ∈ flat hh g := by
      have : q ∈ Tr.rng at_ t (flat hh g) := by rw [h3]; simp
      exact (rng_mem.1 this).1
    refine (nextC_go c b o hh g s t at_ q w tr hc h1 h2 (hk q hm)).mono ?_
    rintro e V ⟨rfl, k1, k2⟩
    exact ⟨rfl, hk1 V [CurR c b s t (q.1 ++ [0])] ⟨fun k _ => k = c, SepF.one ⟨k1, rfl⟩, k2, Grew.refl _ _⟩, by rw [e0]⟩
theorem own_scan (s t : Str) (most : Nat) (hl : t = [] ∨ less t s = false) (h : Own B w0 (TreeR b o L :: X) w) (hk : ∀ p ∈ L, p.1.length ≤ 1000) (hn : L.length ≤ 900000) :
    Calls Try.prog 27 #[ptrV b, .string ⟨s.toArray⟩, .string ⟨t.toArray⟩, .int .i64 most] w fun e V => ∃ (a : Option Addr) (c : Nat), e = .returned (.tuple #[.slice a ((Tr.rng s t L).take most).length c, .int .i64 0]) ∧ Rd V 2 a ((Tr.rng s t L).take most).length c (pairsV ((Tr.rng s t L).take most)) ∧ Below w.heap.size w V := by
  obtain ⟨F1, ⟨hh, g, tr, rfl, rfl⟩, _, _⟩ := h.open1
  refine (scan_any b o hh g s t most hl w tr hk hn).mono ?_
  rintro e V ⟨a, c, rfl, hL⟩
  exact ⟨a, c, rfl, hL.rd, hL.low⟩
theorem own_seek {key : Str} (h : Own B w0 (CurR c b s t at_ :: X) w) (ho : outC s t key = false) :
    Calls Try.prog 28 #[ptrV c, .string ⟨key.toArray⟩] w fun e V => e = .returned (.int .i64 0) ∧ Own B w0 (CurR c b s t key :: X) V := by
  obtain ⟨F1, ⟨hc, rfl⟩, _, hk1⟩ := h.open1
  refine (seekC_ok c b s t at_ key w hc ho).mono ?_
  rintro e V ⟨rfl, k1, k2⟩
  exact ⟨rfl, hk1 V [CurR c b s t key] ⟨fun k _ => k = c, SepF.one ⟨k1, rfl⟩, k2, Grew.refl _ _⟩⟩
theorem own_seek_bad {key : Str} (h : Own B w0 (CurR c b s t at_ :: X) w) (ho : outC s t key = true) :
    Calls Try.prog 28 #[ptrV c, .string ⟨key.toArray⟩] w fun e V => e = .returned (.int .i64 17) ∧ w = V := by
  obtain ⟨F1, ⟨hc, rfl⟩, _, hk1⟩ := h.open1
  exact seekC_bad c b s t at_ key w hc ho
end
end Go.Proofs.Ytbempjkkohjnbaa

/- Resources: the list's calls; Does; made; short. -/
namespace Go.Proofs.Ytbempjkkohjnbaa
open Go.RowKit Tr
open Ky (less)
section
variable {B : Nat} {w0 w : World} {X : List Rs} {b o r c : Nat} {L : List Pr}
theorem own_lstTo {F : Foot} {V : World} {L' : List Pr} (hk : ∀ V L', Turn L' w (lstF r F) V → Own B w0 (L' ++ X) V) (ht : LstTo w r F L' V) : Own B w0 (LstR r L' :: X) V := by
  obtain ⟨F', a', c', h1, h2, h3⟩ := ht.old
  exact hk V [LstR r L'] ⟨lstF r F', SepF.one ⟨F', a', c', h1, rfl⟩, h2, h3⟩
theorem own_putD (key v : Str) (h : Own B w0 (LstR r L :: X) w) (hn : L.length ≤ 100000) :
    Calls Try.prog 48 #[ptrV r, .string ⟨key.toArray⟩, .string ⟨v.toArray⟩] w fun e V => e = .returned (.tuple #[.string ⟨(putO key v L).toArray⟩, .bool (putI key v L), .int .i64 (putC key v)]) ∧ Own B w0 (LstR r (putL key v L) :: X) V := by
  obtain ⟨F1, ⟨F, a, c, l, rfl⟩, _, hk⟩ := h.open1
  unfold putO putI putC putL
  cases hk1 : okTk key with
  | false =>
    refine (putD_bad r key v hk1 w).mono ?_
    rintro e V ⟨rfl, rfl⟩
    exact ⟨rfl, h⟩
  | true =>
    by_cases hv : v.length ≤ 256
    · simp only [hv, decide_true, Bool.and_self, if_true]
      cases hg : get key L with
      | none =>
        refine (putD_new r F a c L key v hg hk1 hv hn w l).mono ?_
        rintro e V ⟨rfl, ht⟩
        exact ⟨by unfold oldS; rw [hg]; rfl, own_lstTo hk ht⟩
      | some u =>
        refine (putD_found r F a c L key v u hg hk1 hv hn w l).mono ?_
        rintro e V ⟨rfl, ht⟩
        exact ⟨by unfold oldS; rw [hg]; rfl, own_lstTo hk ht⟩
    · refine (putD_long r key v hk1 (by omega) w).mono ?_
      rintro e V ⟨rfl, rfl⟩
      simp only [hv, decide_false, Bool.and_false, if_false, if_true]
      exact ⟨rfl, h⟩
theorem own_delD (key : Str) (h : Own B w0 (LstR r L :: X) w) (hn : L.length ≤ 100000) :
    Calls Try.prog 49 #[ptrV r, .string ⟨key.toArray⟩] w fun e V => e = .returned (.tuple #[.string ⟨(getO key L).toArray⟩, .int .i64 (getC key L)]) ∧ Own B w0 (LstR r (delL key L) :: X) V := by
  obtain ⟨F1, ⟨F, a, c, l, rfl⟩, _, hk⟩ := h.open1
  unfold getO getC delL
  cases hk1 : okTk key with
  | false =>
    refine (delD_bad r key hk1 w).mono ?_
    rintro e V ⟨rfl, rfl⟩
    exact ⟨rfl, h⟩
  | true =>
    cases hg : get key L with
    | none =>
      refine (delD_none r F a c L key hk1 hg hn w l).mono ?_
      rintro e V ⟨rfl, hb⟩
      refine ⟨by unfold oldS cdel; rw [hg]; rfl, ?_⟩
      rw [if_pos rfl, del_none hg]
      exact own_lstTo hk (l.stay hb)
    | some u =>
      refine (delD_found r F a c L key u hk1 hg hn w l).mono ?_
      rintro e V ⟨rfl, ht⟩
      exact ⟨by unfold oldS cdel; rw [hg]; rfl, own_lstTo hk ht⟩
theorem own_getD (key : Str) (h : Own B w0 (LstR r L :: X) w) (hn : L.length ≤ 100000) :
    Calls Try.prog 50 #[ptrV r, .string ⟨key.toArray⟩] w fun e V => e = .returned (.tuple #[.string ⟨(getO key L).toArray⟩, .int .i64 (getC key L)]) ∧ Below w.heap.size w V := by
  obtain ⟨F1, ⟨F, a, c, l, rfl⟩, _, hk⟩ := h.open1
  unfold getO getC
  cases hk1 : okTk key with
  | false =>
    refine (getD_bad r key hk1 w).mono ?_
    rintro e V ⟨rfl, rfl⟩
    exact ⟨rfl, Below.refl _ _⟩
  | true => exact getD_any r F a c L key hk1 (by omega) w l
theorem own_cells (h : Own B w0 X w) (vs : Array Value) (t : TypeId) : Own B w0 (CellsR w.heap.size vs.toList :: X) (w.alloc (.cells vs t)) :=
  h.add (al1 w _) (F := fun k _ => k = w.heap.size) ⟨fun k o => Iff.rfl, by simp, fun i v hv => ⟨by simp; simpa using hv, by simp⟩⟩ (fun k x e => by rw [e]; exact Nat.le_refl _)
theorem own_cell {P : Nat} {vs : List Value} (h : Own B w0 (CellsR P vs :: X) w) {i : Nat} {v : Value} (hv : vs[i]? = some v) : w.cell? ⟨P, i, none⟩ = some v := by
  obtain ⟨F, hR, _⟩ := h.get
  exact (hR.2.2 i v hv).1
theorem Own.third {A C D : Rs} (h : Own B w0 (A :: C :: D :: X) w) : Own B w0 (D :: A :: C :: X) w := h.perm ((List.Perm.cons A (.swap D C X)).trans (.swap D A (C :: X)))
theorem Own.rot3 {A C D : Rs} (h : Own B w0 (D :: A :: C :: X) w) : Own B w0 (A :: C :: D :: X) w := h.perm ((List.Perm.swap A D (C :: X)).trans (List.Perm.cons A (.swap C D X)))
set_option maxHeartbeats 2000000 in
set_option maxRecDepth 100000 in
theorem own_does (ask : Int) (key v : Str) (h : Own B w0 (TreeR b o L :: LstR r L :: X) w) (hn : L.length ≤ 100000) :
    Calls Try.prog 30 #[ptrV b, ptrV r, .agg #[.int .i64 ask, .string ⟨key.toArray⟩, .string ⟨v.toArray⟩]] w fun e V => e = .returned (.bool true) ∧ Own B w0 (TreeR b o (stepL ask key v L) :: LstR r (stepL ask key v L) :: X) V := by
  obtain ⟨W, hW⟩ : ∃ W, w.alloc (.cells #[.int .i64 ask, .string ⟨key.toArray⟩, .string ⟨v.toArray⟩] 58) = W := ⟨_, rfl⟩
  have h0 := own_cells h #[.int .i64 ask, .string ⟨key.toArray⟩, .string ⟨v.toArray⟩] 58
  rw [hW] at h0
  have HT := Lib.hid h0.swap
  have x0 := own_cell h0 (i := 0) rfl
  have x1 := own_cell h0 (i := 1) rfl
  have x2 := own_cell h0 (i := 2) rfl
  obtain ⟨oo, ho⟩ : ∃ x, putO key v L = x := ⟨_, rfl⟩
  obtain ⟨oi, hoi⟩ : ∃ x, putI key v L = x := ⟨_, rfl⟩
  obtain ⟨oc, hoc⟩ : ∃ x, putC key v = x := ⟨_, rfl⟩
  obtain ⟨go, hgo⟩ : ∃ x, getO key L = x := ⟨_, rfl⟩
  obtain ⟨gc, hgc⟩ : ∃ x, getC key L = x := ⟨_, rfl⟩
  have q1 := eql_self 9 oo
  have q2 := eql_self 9 go
  have HC0 : Hid (Calls Try.prog 19 #[ptrV b, .string ⟨key.toArray⟩, .string ⟨v.toArray⟩] W fun e V => e = .returned (.tuple #[.string ⟨oo.toArray⟩, .bool oi, .int .i64 oc]) ∧ (V.cell? ⟨w.heap.size, 1, none⟩ = some (.string ⟨key.toArray⟩) ∧ V.cell? ⟨w.heap.size, 2, none⟩ = some (.string ⟨v.toArray⟩)) ∧ Hid (Own B w0 (LstR r L :: TreeR b o (putL key v L) :: X) V)) := Lib.hid (by
    refine (own_put key v HT.out hn).mono ?_
    rintro e V ⟨rfl, t⟩
    exact ⟨by rw [ho, hoi, hoc], ⟨own_cell t.swap (i := 1) rfl, own_cell t.swap (i := 2) rfl⟩, Lib.hid t.swap.drop.swap⟩)
  have HD0 : Hid (∀ V, Own B w0 (LstR r L :: TreeR b o (putL key v L) :: X) V → Calls Try.prog 48 #[ptrV r, .string ⟨key.toArray⟩, .string ⟨v.toArray⟩] V fun e V2 => e = .returned (.tuple #[.string ⟨oo.toArray⟩, .bool oi, .int .i64 oc]) ∧ Hid (Own B w0 (TreeR b o (putL key v L) :: LstR r (putL key v L) :: X) V2)) := Lib.hid (fun V t => by
    refine (own_putD key v t hn).mono ?_
    rintro e V2 ⟨rfl, h⟩
    exact ⟨by rw [ho, hoi, hoc], Lib.hid h.swap⟩)
  have HC1 : Hid (Calls Try.prog 34 #[ptrV b, .string ⟨key.toArray⟩] W fun e V => e = .returned (.tuple #[.string ⟨go.toArray⟩, .int .i64 gc]) ∧ (V.cell? ⟨w.heap.size, 1, none⟩ = some (.string ⟨key.toArray⟩) ∧ V.cell? ⟨w.heap.size, 2, none⟩ = some (.string ⟨v.toArray⟩)) ∧ Hid (Own B w0 (LstR r L :: TreeR b o (delL key L) :: X) V)) := Lib.hid (by
    refine (own_del key HT.out hn).mono ?_
    rintro e V ⟨rfl, t⟩
    exact ⟨by rw [hgo, hgc], ⟨own_cell t.swap (i := 1) rfl, own_cell t.swap (i := 2) rfl⟩, Lib.hid t.swap.drop.swap⟩)
  have HD1 : Hid (∀ V, Own B w0 (LstR r L :: TreeR b o (delL key L) :: X) V → Calls Try.prog 49 #[ptrV r, .string ⟨key.toArray⟩] V fun e V2 => e = .returned (.tuple #[.string ⟨go.toArray⟩, .int .i64 gc]) ∧ Hid (Own B w0 (TreeR b o (delL key L) :: LstR r (delL key L) :: X) V2)) := Lib.hid (fun V t => by
    refine (own_delD key t hn).mono ?_
    rintro e V2 ⟨rfl, h⟩
    exact ⟨by rw [hgo, hgc], Lib.hid h.swap⟩)
  have HC2 : Hid (Calls Try.prog 33 #[ptrV b, .string ⟨key.toArray⟩] W fun e V => e = .returned (.tuple #[.string ⟨go.toArray⟩, .int .i64 gc]) ∧ (V.cell? ⟨w.heap.size, 1, none⟩ = some (.string ⟨key.toArray⟩) ∧ V.cell? ⟨w.heap.size, 2, none⟩ = some (.string ⟨v.toArray⟩)) ∧ Hid (Own B w0 (LstR r L :: TreeR b o L :: X) V)) := Lib.hid (by
    refine (own_get key HT.out).mono ?_
    rintro e V ⟨rfl, hb⟩
    have t := HT.out.later hb
    exact ⟨by rw [hgo, hgc], ⟨own_cell t.swap (i := 1) rfl, own_cell t.swap (i := 2) rfl⟩, Lib.hid t.swap.drop.swap⟩)
  have HD2 : Hid (∀ V, Own B w0 (LstR r L :: TreeR b o L :: X) V → Calls Try.prog 50 #[ptrV r, .string ⟨key.toArray⟩] V fun e V2 => e = .returned (.tuple #[.string ⟨go.toArray⟩, .int .i64 gc]) ∧ Hid (Own B w0 (TreeR b o L :: LstR r L :: X) V2)) := Lib.hid (fun V t => by
    refine (own_getD key t hn).mono ?_
    rintro e V2 ⟨rfl, hb⟩
    exact ⟨by rw [hgo, hgc], Lib.hid (t.later hb).swap⟩)
  clear h h0 ho hoi hoc hgo hgc hn HT
  by_cases h0 : ask = 0
  · subst h0
    have HE : Hid (stepL 0 key v L = putL key v L) := Lib.hid (by simp [stepL])
    go_enter Try.func30, Try.ntmps30
    go_wp2_with (first
      | (go_at_call 19; refine HC0.out.mono ?_; rintro e V ⟨rfl, ⟨y1, y2⟩, H1⟩)
      | (go_at_call 48; refine (HD0.out _ H1.out).mono ?_; rintro e V2 ⟨rfl, H2⟩))
    go_ret
    rw [HE.out]
    exact ⟨rfl, H2.out⟩
  by_cases h1 : ask = 1
  · subst h1
    have HE : Hid (stepL 1 key v L = delL key L) := Lib.hid (by simp [stepL])
    go_enter Try.func30, Try.ntmps30
    go_wp2_with (first
      | (go_at_call 34; refine HC1.out.mono ?_; rintro e V ⟨rfl, ⟨y1, y2⟩, H1⟩)
      | (go_at_call 49; refine (HD1.out _ H1.out).mono ?_; rintro e V2 ⟨rfl, H2⟩))
    go_ret
    rw [HE.out]
    exact ⟨rfl, H2.out⟩
  · have HE : Hid (stepL ask key v L = L) := Lib.hid (by simp [stepL, h0, h1])
    go_enter Try.func30, Try.ntmps30
    go_wp2_with (first
      | (go_at_call 33; refine HC2.out.mono ?_; rintro e V ⟨rfl, ⟨y1, y2⟩, H1⟩)
      | (go_at_call 50; refine (HD2.out _ H1.out).mono ?_; rintro e V2 ⟨rfl, H2⟩))
    go_ret
    rw [HE.out]
    exact ⟨rfl, H2.out⟩
end
end Go.Proofs.Ytbempjkkohjnbaa

/- Resources: what Next answers, in one word. -/
namespace Go.Proofs.Ytbempjkkohjnbaa
open Go.RowKit Tr
open Ky (less)
def nk (l : List Pr) : Str := match l with | [] => [] | q :: _ => q.1
def nv (l : List Pr) : Str := match l with | [] => [] | q :: _ => q.2
section
variable {B : Nat} {w0 w : World} {X X' : List Rs} {b o r c : Nat} {L : List Pr} {s t at_ : Str}
theorem own_next {ys : List Pr} (h : Own B w0 (CurR c b s t at_ :: X) w) (hX : X.Perm (TreeR b o L :: X')) (hr : Tr.rng at_ t L = ys) (hk : ∀ p ∈ L, p.1.length ≤ 1000) :
    Calls Try.prog 25 #[ptrV c] w fun e V => e = .returned (.tuple #[.string ⟨(nk ys).toArray⟩, .string ⟨(nv ys).toArray⟩, .bool (!ys.isEmpty)]) ∧ ∃ a, Own B w0 (CurR c b s t a :: X) V ∧ Tr.rng a t L = ys.tail := by
  have h2 := h.perm (List.Perm.cons _ hX)
  cases ys with
  | nil =>
    refine (own_next_stop h2 hr).mono ?_
    rintro e V ⟨rfl, hb⟩
    exact ⟨rfl, at_, h.later hb, hr⟩
  | cons q rest =>
    refine (own_next_go h2 hr hk).mono ?_
    rintro e V ⟨rfl, h3, h4⟩
    exact ⟨rfl, _, h3.perm (List.Perm.cons _ hX.symm), h4⟩
/-- A slice as a resource. -/
def SlR (size : Nat) (a : Option Addr) (n c : Nat) (xs : List Value) : Rs where
  R w F := Sl w size F a n c xs ∧ Lies w F
  fr := fun ⟨h1, h2⟩ hf ha => ⟨h1.fr hf ha, h2.later hf⟩
  lies := fun ⟨_, h2⟩ => h2
theorem own_loc {size n k : Nat} {a : Option Addr} {xs : List Value} {V : World} (h : Own B w0 X w) (hL : Loc size w V a n k xs) : Own B w0 (SlR size a n k xs :: X) V := by
  obtain ⟨F, h1, h2, h3, h4⟩ := hL
  exact h.add h4 (F := F) ⟨h1, h2⟩ h3
theorem own_rd {size n k : Nat} {a : Option Addr} {xs : List Value} (h : Own B w0 (SlR size a n k xs :: X) w) : Rd w size a n k xs := by
  obtain ⟨F, ⟨h1, _⟩, _⟩ := h.get
  exact h1.rd
theorem own_scan' (s t : Str) (most : Nat) (hl : t = [] ∨ less t s = false) (h : Own B w0 X w) (hX : X.Perm (TreeR b o L :: X')) (hk : ∀ p ∈ L, p.1.length ≤ 1000) (hn : L.length ≤ most) (hn2 : L.length ≤ 900000) :
    Calls Try.prog 27 #[ptrV b, .string ⟨s.toArray⟩, .string ⟨t.toArray⟩, .int .i64 most] w fun e V => ∃ (a : Option Addr) (c : Nat), e = .returned (.tuple #[.slice a (Tr.rng s t L).length c, .int .i64 0]) ∧ Own B w0 (SlR 2 a (Tr.rng s t L).length c (pairsV (Tr.rng s t L)) :: X) V := by
  obtain ⟨F1, ⟨hh, g, tr, rfl, rfl⟩, _, _⟩ := (h.perm hX).open1
  have h1 := scan_any b o hh g s t most hl w tr hk hn2
  have e : (Tr.rng s t (flat hh g)).take most = Tr.rng s t (flat hh g) := List.take_of_length_le (Nat.le_trans (rng_len s t _) hn)
  rw [e] at h1
  refine h1.mono ?_
  rintro e V ⟨a, c, rfl, hL⟩
  exact ⟨a, c, rfl, own_loc h hL⟩
theorem permT {A D T : Rs} {Y : List Rs} : (A :: D :: T :: Y).Perm (T :: A :: D :: Y) := (List.Perm.cons A (.swap T D Y)).trans (.swap T A (D :: Y))
theorem perm5 {A C D E F : Rs} : [A, C, D, E, F].Perm [E, A, C, D, F] := (List.Perm.cons A ((List.Perm.cons C (.swap E D [F])).trans (.swap E C [D, F]))).trans (.swap E A [C, D, F])
end
end Go.Proofs.Ytbempjkkohjnbaa
