/- Joined: Res. -/
import Derived.Test.YtbempjkkohjnbaaYSep
import Derived.Test.YtbempjkkohjnbaaYLawA
import Derived.Test.YtbempjkkohjnbaaYTreeF
import Derived.Test.YtbempjkkohjnbaaYCur2
import Derived.Test.YtbempjkkohjnbaaYCur3
import Derived.Test.YtbempjkkohjnbaaYTr11
/- A tree, a list and cursors as resources beside each other: what calls do with them. -/
namespace Go.Proofs.Ytbempjkkohjnbaa
open Go.RowKit Tr
open Ky (less)

def TreeR (b o : Nat) (L : List Pr) : Rs where
  R w F := ∃ h g, TreeAt w b o h g ∧ flat h g = L ∧ F = treeF b h g
  fr := fun ⟨h, g, t, e, hF⟩ hf ha => ⟨h, g, t.fr hf (by rw [← hF]; exact ha), e, hF⟩
  lies := fun ⟨h, g, t, e, hF⟩ => by rw [hF]; exact t.m.lies
def LstR (r : Nat) (L : List Pr) : Rs where
  R w F := ∃ F0 a c, Lst w r F0 a c L ∧ F = lstF r F0
  fr := fun ⟨F0, a, c, t, hF⟩ hf ha => ⟨F0, a, c, t.fr hf (by rw [← hF]; exact ha), hF⟩
  lies := fun ⟨F0, a, c, t, hF⟩ => by rw [hF]; exact t.lies
def CurR (c b : Nat) (s t at_ : Str) : Rs where
  R w F := CurAt w c b s t at_ ∧ F = fun k _ => k = c
  fr := fun ⟨t, hF⟩ hf ha => ⟨t.fr hf (fun x => ha c x (by rw [hF])), hF⟩
  lies := fun ⟨t, hF⟩ => by rw [hF]; rintro k x rfl; exact block_of_cell t.c0
section
variable {B : Nat} {w0 w V : World} {L L' X : List Rs} {A C : Rs}
/-- The first one, opened: whatever it is turned to, the others stay. -/
theorem Own.open1 (h : Own B w0 (A :: X) w) : ∃ F1, A.R w F1 ∧ (∀ b o, F1 b o → B ≤ b) ∧ ∀ V L', Turn L' w F1 V → Own B w0 (L' ++ X) V := by
  obtain ⟨hB, hb0, F, ⟨F1, F2, e, ha, h1, h3⟩, h2⟩ := h
  refine ⟨F1, h1, fun b o hb => h2 b o ((e b o).2 (.inl hb)), fun V L' ⟨F1', k1, k2, k3⟩ => ?_⟩
  have hs := Nat.le_trans hB hb0.size
  refine ⟨hB, hb0.trans (k2.below hs (fun b o hb => h2 b o ((e b o).2 (.inl hb)))), fun b o => F1' b o ∨ F2 b o, SepF.join (fun b o => Iff.rfl) ((ha.symm.grew h3.lies k3).symm) k1 (h3.fr k2 ha.symm), fun b o hb => ?_⟩
  rcases hb with hb | hb
  · rcases k3 b o hb with h | h
    · exact h2 b o ((e b o).2 (.inl h))
    · omega
  · exact h2 b o ((e b o).2 (.inr hb))
theorem Own.open2 (h : Own B w0 (A :: C :: X) w) : ∃ F1 F2, A.R w F1 ∧ C.R w F2 ∧ Apart F1 F2 := by
  obtain ⟨hB, hb0, F, ⟨F1, F2, e, ha, h1, ⟨G1, G2, e2, ha2, k1, k2⟩⟩, h2⟩ := h
  exact ⟨F1, G1, h1, k1, fun b o h h' => ha b o h ((e2 b o).2 (.inl h'))⟩
end
section
variable {B : Nat} {w0 w : World} {X : List Rs} {b o r c : Nat} {L : List Pr} {s t at_ : Str}
theorem own_new (o : Nat) (h2 : 2 ≤ o) (h16 : o ≤ 16) (h : Own B w0 X w) :
    Calls Try.prog 17 #[.int .i64 o] w fun e V => ∃ b, e = .returned (.tuple #[ptrV b, .int .i64 0]) ∧ Own B w0 (TreeR b o [] :: X) V := by
  refine (newT_any o h2 h16 w).mono ?_
  rintro e V ⟨b, g, rfl, t1, t2, t3, t4⟩
  exact ⟨b, rfl, h.add t3 (F := treeF b 0 g) ⟨0, g, t1, t2, rfl⟩ t4⟩
theorem own_put (key v : Str) (h : Own B w0 (TreeR b o L :: X) w) (hn : L.length ≤ 100000) :
    Calls Try.prog 19 #[ptrV b, .string ⟨key.toArray⟩, .string ⟨v.toArray⟩] w fun e V => e = .returned (.tuple #[.string ⟨(putO key v L).toArray⟩, .bool (putI key v L), .int .i64 (putC key v)]) ∧ Own B w0 (TreeR b o (putL key v L) :: X) V := by
  obtain ⟨F1, ⟨hh, g, t, e, rfl⟩, _, hk⟩ := h.open1
  unfold putO putI putC putL
  cases hk1 : okTk key with
  | false =>
    refine (put_code _ key v 13 (.inr rfl) (says_key b key hk1) w).mono ?_
    rintro e V ⟨rfl, rfl⟩
    exact ⟨rfl, h⟩
  | true =>
    by_cases hv : v.length ≤ 256
    · refine (tree_put b o hh g key v hk1 hv (by rw [e]; omega) w t).mono ?_
      rintro e' V ⟨rfl, h', g', t1, t2, t3, t4, _⟩
      rw [e] at t2 ⊢
      simp only [hv, decide_true, Bool.and_self, if_true]
      exact ⟨trivial, hk V [TreeR b o _] ⟨treeF b h' g', SepF.one ⟨h', g', t1, t2, rfl⟩, t3, t4⟩⟩
    · refine (put_long b key v hk1 (by omega) w).mono ?_
      rintro e V ⟨rfl, rfl⟩
      simp only [hv, decide_false, Bool.and_false, if_false, if_true]
      exact ⟨rfl, h⟩
theorem own_del (key : Str) (h : Own B w0 (TreeR b o L :: X) w) (hn : L.length ≤ 100000) :
    Calls Try.prog 34 #[ptrV b, .string ⟨key.toArray⟩] w fun e V => e = .returned (.tuple #[.string ⟨(getO key L).toArray⟩, .int .i64 (getC key L)]) ∧ Own B w0 (TreeR b o (delL key L) :: X) V := by
  obtain ⟨F1, ⟨hh, g, t, e, rfl⟩, _, hk⟩ := h.open1
  unfold getO getC delL
  cases hk1 : okTk key with
  | false =>
    refine (del_code _ key 13 (.inr rfl) (says_key b key hk1) w).mono ?_
    rintro e V ⟨rfl, rfl⟩
    exact ⟨rfl, h⟩
  | true =>
    refine (tree_del b o hh g key hk1 (by rw [e]; omega) w t).mono ?_
    rintro e' V ⟨rfl, h', g', t1, t2, t3, t4, _⟩
    rw [e] at t2 ⊢
    exact ⟨rfl, hk V [TreeR b o _] ⟨treeF b h' g', SepF.one ⟨h', g', t1, t2, rfl⟩, t3, t4⟩⟩
theorem own_get (key : Str) (h : Own B w0 (TreeR b o L :: X) w) :
    Calls Try.prog 33 #[ptrV b, .string ⟨key.toArray⟩] w fun e V => e = .returned (.tuple #[.string ⟨(getO key L).toArray⟩, .int .i64 (getC key L)]) ∧ Below w.heap.size w V := by
  obtain ⟨F1, ⟨hh, g, t, e, rfl⟩, _, hk⟩ := h.open1
  unfold getO getC
  cases hk1 : okTk key with
  | false =>
    refine (get_code _ key 13 (.inr rfl) (says_key b key hk1) w).mono ?_
    rintro e V ⟨rfl, rfl⟩
    exact ⟨rfl, Below.refl _ _⟩
  | true =>
    refine (get_walk b o hh g key hk1 w t).mono ?_
    rintro e' V ⟨rfl, hb⟩
    rw [e]
    exact ⟨rfl, hb⟩
theorem own_ceil (key : Str) (h : Own B w0 (TreeR b o L :: X) w) :
    Calls Try.prog 32 #[ptrV b, .string ⟨key.toArray⟩] w fun e V => e = .returned (.tuple #[.string ⟨(ckey (ceil key L)).toArray⟩, .string ⟨(cval (ceil key L)).toArray⟩, .int .i64 (ccode (ceil key L))]) ∧ Below w.heap.size w V := by
  obtain ⟨F1, ⟨hh, g, t, rfl, rfl⟩, _, _⟩ := h.open1
  exact ceil_walk b o hh g key w t
theorem own_sorted (h : Own B w0 (TreeR b o L :: X) w) : Sorted L := by
  obtain ⟨F1, ⟨hh, g, t, rfl, rfl⟩, _, _⟩ := h.open1
  exact t.good.sorted
theorem own_count (h : Own B w0 (TreeR b o L :: X) w) : w.cell? ⟨b, 1, none⟩ = some (.int .i64 (L.length : Nat)) := by
  obtain ⟨F1, ⟨hh, g, t, rfl, rfl⟩, _, _⟩ := h.open1
  exact t.m.c1
theorem own_all (h : Own B w0 (TreeR b o L :: X) w) (hn : L.length ≤ 900000) :
    Calls Try.prog 20 #[ptrV b] w fun e V => ∃ (Bx : Nat) (a : Option Addr) (c : Nat), e = .returned (.func (.func 46) #[] #[.pointer (some ⟨Bx, 0, none⟩)]) ∧ V.cell? ⟨Bx, 0, none⟩ = some (.slice a L.length c) ∧ Rd V 2 a L.length c (pairsV L) ∧ Below w.heap.size w V := by
  obtain ⟨F1, ⟨hh, g, t, rfl, rfl⟩, _, _⟩ := h.open1
  exact allT_any b o hh g w t hn
theorem own_same (h : Own B w0 (TreeR b o L :: LstR r L :: X) w) (hn : L.length ≤ 900000) :
    Calls Try.prog 21 #[ptrV b, ptrV r] w fun e V => e = .returned (.bool true) ∧ Below w.heap.size w V := by
  obtain ⟨F1, F2, ⟨hh, g, t, e, rfl⟩, ⟨F0, a, c, l, rfl⟩, _⟩ := h.open2
  exact same_any b o hh g r F0 a c L w t e l hn
theorem own_curNew (s t : Str) (hl : t = [] ∨ less t s = false) (h : Own B w0 X w) :
    Calls Try.prog 26 #[ptrV b, .string ⟨s.toArray⟩, .string ⟨t.toArray⟩] w fun e V => ∃ c, e = .returned (.tuple #[ptrV c, .int .i64 0]) ∧ Own B w0 (CurR c b s t s :: X) V := by
  refine (newC_ok b s t hl w).mono ?_
  rintro e V ⟨rfl, h1, h2⟩
  exact ⟨_, rfl, h.add h2 (F := fun k _ => k = w.heap.size) ⟨h1, rfl⟩ (fun k x e => by rw [e]; exact Nat.le_refl _)⟩
theorem own_next_stop (h : Own B w0 (CurR c b s t at_ :: TreeR b o L :: X) w) (hr : Tr.rng at_ t L = []) :
    Calls Try.prog 25 #[ptrV c] w fun e V => e = .returned (.tuple #[.string ⟨#[]⟩, .string ⟨#[]⟩, .bool false]) ∧ Below w.heap.size w V := by
  obtain ⟨F1, F2, ⟨hc, rfl⟩, ⟨hh, g, tr, rfl, rfl⟩, _⟩ := h.open2
  rcases rng_step (s := at_) (t := t) tr.good.sorted with ⟨h1, _⟩ | ⟨q, _, _, h3⟩
  · exact nextC_stop c b o hh g s t at_ w tr hc h1
  · rw [h3] at hr; cases hr
theorem own_next_go {q : Pr} {rest : List Pr} (h : Own B w0 (CurR c b s t at_ :: TreeR b o L :: X) w) (hr : Tr.rng at_ t L = q :: rest) (hk : ∀ p ∈ L, p.1.length ≤ 1000) :
    Calls Try.prog 25 #[ptrV c] w fun e V => e = .returned (.tuple #[.string ⟨q.1.toArray⟩, .string ⟨q.2.toArray⟩, .bool true]) ∧ Own B w0 (CurR c b s t (q.1 ++ [0]) :: TreeR b o L :: X) V ∧ Tr.rng (q.1 ++ [0]) t L = rest := by
  obtain ⟨F1, F2, ⟨hc, rfl⟩, ⟨hh, g, tr, e0, rfl⟩, _⟩ := h.open2
  obtain ⟨F1', ⟨_, rfl⟩, _, hk1⟩ := h.open1
  rw [← e0] at hr hk
  rcases rng_step (s := at_) (t := t) tr.good.sorted with ⟨_, h2⟩ | ⟨q', h1, h2, h3⟩
  · rw [h2] at hr; cases hr
  · rw [h3] at hr
    cases hr
    have hm : q ∈ flat hh g := by
      have : q ∈ Tr.rng at_ t (flat hh g) := by rw [h3]; simp
      exact (rng_mem.1 this).1
    refine (nextC_go c b o hh g s t at_ q w tr hc h1 h2 (hk q hm)).mono ?_
    rintro e V ⟨rfl, k1, k2⟩
    exact ⟨rfl, hk1 V [CurR c b s t (q.1 ++ [0])] ⟨fun k _ => k = c, SepF.one ⟨k1, rfl⟩, k2, Grew.refl _ _⟩, by rw [e0]⟩
theorem own_scan (s t : Str) (most : Nat) (hl : t = [] ∨ less t s = false) (h : Own B w0 (TreeR b o L :: X) w) (hk : ∀ p ∈ L, p.1.length ≤ 1000) (hn : L.length ≤ 900000) :
    Calls Try.prog 27 #[ptrV b, .string ⟨s.toArray⟩, .string ⟨t.toArray⟩, .int .i64 most] w fun e V => ∃ (a : Option Addr) (c : Nat), e = .returned (.tuple #[.slice a ((Tr.rng s t L).take most).length c, .int .i64 0]) ∧ Rd V 2 a ((Tr.rng s t L).take most).length c (pairsV ((Tr.rng s t L).take most)) ∧ Below w.heap.size w V := by
  obtain ⟨F1, ⟨hh, g, tr, rfl, rfl⟩, _, _⟩ := h.open1
  exact scan_any b o hh g s t most hl w tr hk hn
theorem own_seek {key : Str} (h : Own B w0 (CurR c b s t at_ :: X) w) (ho : outC s t key = false) :
    Calls Try.prog 28 #[ptrV c, .string ⟨key.toArray⟩] w fun e V => e = .returned (.int .i64 0) ∧ Own B w0 (CurR c b s t key :: X) V := by
  obtain ⟨F1, ⟨hc, rfl⟩, _, hk1⟩ := h.open1
  refine (seekC_ok c b s t at_ key w hc ho).mono ?_
  rintro e V ⟨rfl, k1, k2⟩
  exact ⟨rfl, hk1 V [CurR c b s t key] ⟨fun k _ => k = c, SepF.one ⟨k1, rfl⟩, k2, Grew.refl _ _⟩⟩
theorem own_seek_bad {key : Str} (h : Own B w0 (CurR c b s t at_ :: X) w) (ho : outC s t key = true) :
    Calls Try.prog 28 #[ptrV c, .string ⟨key.toArray⟩] w fun e V => e = .returned (.int .i64 17) ∧ w = V := by
  obtain ⟨F1, ⟨hc, rfl⟩, _, hk1⟩ := h.open1
  exact seekC_bad c b s t at_ key w hc ho
end
end Go.Proofs.Ytbempjkkohjnbaa
