/- Joined: Law1, Law2, Law3, Law4. -/
import Derived.Test.YtbempjkkohjnbaaYDoc
/- A tree beside the document's list. -/
namespace Go.Proofs.Ytbempjkkohjnbaa
open Go.RowKit Tr
open Ky (less)

/-- What lies in K lies as it lay. -/
def Kept (K : Foot) (w V : World) : Prop := ∀ k x, K k x → V.cell? ⟨k, x, none⟩ = w.cell? ⟨k, x, none⟩ ∧ V.frozen? ⟨k, x, none⟩ = w.frozen? ⟨k, x, none⟩
theorem Kept.trans {K : Foot} {w W V : World} (h : Kept K w W) (k : Kept K W V) : Kept K w V := fun b x hb => ⟨(k b x hb).1.trans (h b x hb).1, (k b x hb).2.trans (h b x hb).2⟩
/-- A tree that holds L1, a list that holds L2; both lie from block B on, apart of each other and of K. -/
structure Two (B : Nat) (K : Foot) (w : World) (b o r : Nat) (L1 L2 : List Pr) (h : Nat) (g : G) (F : Foot) (a : Option Addr) (c : Nat) : Prop where
  t : TreeAt w b o h g
  e : flat h g = L1
  l : Lst w r F a c L2
  ap : Apart (treeF b h g) (lstF r F)
  tk : Apart (treeF b h g) K
  lk : Apart (lstF r F) K
  tb : ∀ k x, treeF b h g k x → B ≤ k
  lb : ∀ k x, lstF r F k x → B ≤ k
  kl : Lies w K
  bs : B ≤ w.heap.size
def TreeTo (w : World) (b o h : Nat) (g : G) (L' : List Pr) (V : World) : Prop := ∃ h' g', TreeAt V b o h' g' ∧ flat h' g' = L' ∧ Fr (treeF b h g) w V ∧ Grew w (treeF b h g) (treeF b h' g')
def TwoAt (B : Nat) (K : Foot) (w : World) (b o r : Nat) (L1 L2 : List Pr) : Prop := ∃ h g F a c, Two B K w b o r L1 L2 h g F a c
theorem Lst.lies {w : World} {r : Nat} {F : Foot} {a : Option Addr} {c : Nat} {L : List Pr} (h : Lst w r F a c L) : Lies w (lstF r F) := by
  rintro k x (rfl | hx)
  · exact block_of_cell h.c0
  · exact h.lf k x hx
theorem TwoAt.later {B : Nat} {K : Foot} {w V : World} {b o r : Nat} {L1 L2 : List Pr} (h : TwoAt B K w b o r L1 L2) (hb : Below w.heap.size w V) : TwoAt B K V b o r L1 L2 := by
  obtain ⟨h, g, F, a, c, T⟩ := h
  exact ⟨h, g, F, a, c, T.t.later hb, T.e, T.l.later hb, T.ap, T.tk, T.lk, T.tb, T.lb, T.kl.later (Fr.ofBelow hb noCells), Nat.le_trans T.bs hb.size⟩
theorem Two.tree {B : Nat} {K : Foot} {w V : World} {b o r h : Nat} {g : G} {F : Foot} {a : Option Addr} {c : Nat} {L1 L2 L' : List Pr} (T : Two B K w b o r L1 L2 h g F a c) (ht : TreeTo w b o h g L' V) : TwoAt B K V b o r L' L2 ∧ Below B w V ∧ Kept K w V := by
  obtain ⟨h', g', t1, t2, t3, t4⟩ := ht
  refine ⟨⟨h', g', F, a, c, t1, t2, T.l.fr t3 T.ap.symm, (T.ap.symm.grew T.l.lies t4).symm, (T.tk.symm.grew T.kl t4).symm, T.lk, fun k x hx => ?_, T.lb, T.kl.later t3, Nat.le_trans T.bs t3.size⟩, t3.below T.bs T.tb, fun k x hx => ⟨t3.cell k x (T.kl k x hx) (fun e => T.tk k x e hx), t3.froz k x (T.kl k x hx) (fun e => T.tk k x e hx)⟩⟩
  rcases t4 k x hx with e | e
  · exact T.tb k x e
  · exact Nat.le_trans T.bs e
theorem Two.list {B : Nat} {K : Foot} {w V : World} {b o r h : Nat} {g : G} {F : Foot} {a : Option Addr} {c : Nat} {L1 L2 L' : List Pr} (T : Two B K w b o r L1 L2 h g F a c) (ht : LstTo w r F L' V) : TwoAt B K V b o r L1 L' ∧ Below B w V ∧ Kept K w V := by
  obtain ⟨F', a', c', t1, t3, t4⟩ := ht.old
  refine ⟨⟨h, g, F', a', c', T.t.fr t3 T.ap, T.e, t1, T.ap.grew T.t.m.lies t4, T.tk, (T.lk.symm.grew T.kl t4).symm, T.tb, fun k x hx => ?_, T.kl.later t3, Nat.le_trans T.bs t3.size⟩, t3.below T.bs T.lb, fun k x hx => ⟨t3.cell k x (T.kl k x hx) (fun e => T.lk k x e hx), t3.froz k x (T.kl k x hx) (fun e => T.lk k x e hx)⟩⟩
  rcases t4 k x hx with e | e
  · exact T.lb k x e
  · exact Nat.le_trans T.bs e
theorem below_kept {K : Foot} {w V : World} (hl : Lies w K) (hb : Below w.heap.size w V) : Kept K w V := fun k x hx => ⟨(Fr.ofBelow hb noCells).cell k x (hl k x hx) (fun e => e), (Fr.ofBelow hb noCells).froz k x (hl k x hx) (fun e => e)⟩
/-- What the calls answer, and what they leave. -/
def putO (key v : Str) (L : List Pr) : Str := if okTk key && decide (v.length ≤ 256) then oldS key L else []
def putI (key v : Str) (L : List Pr) : Bool := if okTk key && decide (v.length ≤ 256) then (get key L).isSome else false
def putC (key v : Str) : Int := if okTk key then (if v.length ≤ 256 then 0 else 23) else 13
def putL (key v : Str) (L : List Pr) : List Pr := if okTk key && decide (v.length ≤ 256) then ins (key, v) L else L
def getO (key : Str) (L : List Pr) : Str := if okTk key then oldS key L else []
def getC (key : Str) (L : List Pr) : Int := if okTk key then cdel key L else 13
def delL (key : Str) (L : List Pr) : List Pr := if okTk key then del key L else L
theorem two_put {B : Nat} {K : Foot} {w : World} {b o r : Nat} {L1 L2 : List Pr} (key v : Str) (T : TwoAt B K w b o r L1 L2) (hn : L1.length ≤ 100000) :
    Calls Try.prog 19 #[ptrV b, .string ⟨key.toArray⟩, .string ⟨v.toArray⟩] w fun e V => e = .returned (.tuple #[.string ⟨(putO key v L1).toArray⟩, .bool (putI key v L1), .int .i64 (putC key v)]) ∧ TwoAt B K V b o r (putL key v L1) L2 ∧ Below B w V ∧ Kept K w V := by
  obtain ⟨h, g, F, a, c, T⟩ := T
  unfold putO putI putC putL
  cases hk : okTk key with
  | false =>
    refine (put_code _ key v 13 (.inr rfl) (says_key b key hk) w).mono ?_
    rintro e V ⟨rfl, rfl⟩
    exact ⟨rfl, ⟨h, g, F, a, c, T⟩, Below.refl _ _, fun _ _ _ => ⟨rfl, rfl⟩⟩
  | true =>
    by_cases hv : v.length ≤ 256
    · refine (tree_put b o h g key v hk hv (by rw [T.e]; omega) w T.t).mono ?_
      rintro e V ⟨rfl, h', g', t1, t2, t3, t4, _⟩
      have := T.tree ⟨h', g', t1, t2, t3, t4⟩
      rw [T.e] at this ⊢
      simp only [hv, decide_true, Bool.and_self, if_true]
      exact ⟨trivial, this⟩
    · refine (put_long b key v hk (by omega) w).mono ?_
      rintro e V ⟨rfl, rfl⟩
      simp only [hv, decide_false, Bool.and_false, if_false, if_true]
      exact ⟨rfl, ⟨h, g, F, a, c, T⟩, Below.refl _ _, fun _ _ _ => ⟨rfl, rfl⟩⟩
end Go.Proofs.Ytbempjkkohjnbaa

/- A tree beside the document's list: the calls; Does. -/
namespace Go.Proofs.Ytbempjkkohjnbaa
open Go.RowKit Tr
open Ky (less)

variable {B : Nat} {K : Foot} {w : World} {b o r : Nat} {L1 L2 : List Pr}
theorem two_del (key : Str) (T : TwoAt B K w b o r L1 L2) (hn : L1.length ≤ 100000) :
    Calls Try.prog 34 #[ptrV b, .string ⟨key.toArray⟩] w fun e V => e = .returned (.tuple #[.string ⟨(getO key L1).toArray⟩, .int .i64 (getC key L1)]) ∧ TwoAt B K V b o r (delL key L1) L2 ∧ Below B w V ∧ Kept K w V := by
  obtain ⟨h, g, F, a, c, T⟩ := T
  unfold getO getC delL
  cases hk : okTk key with
  | false =>
    refine (del_code _ key 13 (.inr rfl) (says_key b key hk) w).mono ?_
    rintro e V ⟨rfl, rfl⟩
    exact ⟨rfl, ⟨h, g, F, a, c, T⟩, Below.refl _ _, fun _ _ _ => ⟨rfl, rfl⟩⟩
  | true =>
    refine (tree_del b o h g key hk (by rw [T.e]; omega) w T.t).mono ?_
    rintro e V ⟨rfl, h', g', t1, t2, t3, t4, _⟩
    have := T.tree ⟨h', g', t1, t2, t3, t4⟩
    rw [T.e] at this ⊢
    exact ⟨rfl, this⟩
theorem two_get (key : Str) (T : TwoAt B K w b o r L1 L2) :
    Calls Try.prog 33 #[ptrV b, .string ⟨key.toArray⟩] w fun e V => e = .returned (.tuple #[.string ⟨(getO key L1).toArray⟩, .int .i64 (getC key L1)]) ∧ TwoAt B K V b o r L1 L2 ∧ Below B w V ∧ Kept K w V := by
  obtain ⟨h, g, F, a, c, T⟩ := T
  unfold getO getC
  cases hk : okTk key with
  | false =>
    refine (get_code _ key 13 (.inr rfl) (says_key b key hk) w).mono ?_
    rintro e V ⟨rfl, rfl⟩
    exact ⟨rfl, ⟨h, g, F, a, c, T⟩, Below.refl _ _, fun _ _ _ => ⟨rfl, rfl⟩⟩
  | true =>
    refine (get_walk b o h g key hk w T.t).mono ?_
    rintro e V ⟨rfl, hb⟩
    rw [T.e]
    exact ⟨rfl, TwoAt.later ⟨h, g, F, a, c, T⟩ hb, hb.mono T.bs, below_kept T.kl hb⟩
theorem two_putD (key v : Str) (T : TwoAt B K w b o r L1 L2) (hn : L2.length ≤ 100000) :
    Calls Try.prog 48 #[ptrV r, .string ⟨key.toArray⟩, .string ⟨v.toArray⟩] w fun e V => e = .returned (.tuple #[.string ⟨(putO key v L2).toArray⟩, .bool (putI key v L2), .int .i64 (putC key v)]) ∧ TwoAt B K V b o r L1 (putL key v L2) ∧ Below B w V ∧ Kept K w V := by
  obtain ⟨h, g, F, a, c, T⟩ := T
  unfold putO putI putC putL
  cases hk : okTk key with
  | false =>
    refine (putD_bad r key v hk w).mono ?_
    rintro e V ⟨rfl, rfl⟩
    exact ⟨rfl, ⟨h, g, F, a, c, T⟩, Below.refl _ _, fun _ _ _ => ⟨rfl, rfl⟩⟩
  | true =>
    by_cases hv : v.length ≤ 256
    · simp only [hv, decide_true, Bool.and_self, if_true]
      cases hg : get key L2 with
      | none =>
        refine (putD_new r F a c L2 key v hg hk hv hn w T.l).mono ?_
        rintro e V ⟨rfl, ht⟩
        exact ⟨by unfold oldS; rw [hg]; rfl, T.list ht⟩
      | some u =>
        refine (putD_found r F a c L2 key v u hg hk hv hn w T.l).mono ?_
        rintro e V ⟨rfl, ht⟩
        exact ⟨by unfold oldS; rw [hg]; rfl, T.list ht⟩
    · refine (putD_long r key v hk (by omega) w).mono ?_
      rintro e V ⟨rfl, rfl⟩
      simp only [hv, decide_false, Bool.and_false, if_false, if_true]
      exact ⟨rfl, ⟨h, g, F, a, c, T⟩, Below.refl _ _, fun _ _ _ => ⟨rfl, rfl⟩⟩
theorem two_delD (key : Str) (T : TwoAt B K w b o r L1 L2) (hn : L2.length ≤ 100000) :
    Calls Try.prog 49 #[ptrV r, .string ⟨key.toArray⟩] w fun e V => e = .returned (.tuple #[.string ⟨(getO key L2).toArray⟩, .int .i64 (getC key L2)]) ∧ TwoAt B K V b o r L1 (delL key L2) ∧ Below B w V ∧ Kept K w V := by
  obtain ⟨h, g, F, a, c, T⟩ := T
  unfold getO getC delL
  cases hk : okTk key with
  | false =>
    refine (delD_bad r key hk w).mono ?_
    rintro e V ⟨rfl, rfl⟩
    exact ⟨rfl, ⟨h, g, F, a, c, T⟩, Below.refl _ _, fun _ _ _ => ⟨rfl, rfl⟩⟩
  | true =>
    cases hg : get key L2 with
    | none =>
      refine (delD_none r F a c L2 key hk hg hn w T.l).mono ?_
      rintro e V ⟨rfl, hb⟩
      refine ⟨by unfold oldS cdel; rw [hg]; rfl, ?_⟩
      rw [if_pos rfl, del_none hg]
      exact T.list (T.l.stay hb)
    | some u =>
      refine (delD_found r F a c L2 key u hk hg hn w T.l).mono ?_
      rintro e V ⟨rfl, ht⟩
      exact ⟨by unfold oldS cdel; rw [hg]; rfl, T.list ht⟩
theorem two_getD (key : Str) (T : TwoAt B K w b o r L1 L2) (hn : L2.length ≤ 100000) :
    Calls Try.prog 50 #[ptrV r, .string ⟨key.toArray⟩] w fun e V => e = .returned (.tuple #[.string ⟨(getO key L2).toArray⟩, .int .i64 (getC key L2)]) ∧ TwoAt B K V b o r L1 L2 ∧ Below B w V ∧ Kept K w V := by
  obtain ⟨h, g, F, a, c, T⟩ := T
  unfold getO getC
  cases hk : okTk key with
  | false =>
    refine (getD_bad r key hk w).mono ?_
    rintro e V ⟨rfl, rfl⟩
    exact ⟨rfl, ⟨h, g, F, a, c, T⟩, Below.refl _ _, fun _ _ _ => ⟨rfl, rfl⟩⟩
  | true =>
    refine (getD_any r F a c L2 key hk (by omega) w T.l).mono ?_
    rintro e V ⟨rfl, hb⟩
    exact ⟨rfl, TwoAt.later ⟨h, g, F, a, c, T⟩ hb, hb.mono T.bs, below_kept T.kl hb⟩
/-- One more block is kept. -/
theorem TwoAt.keep {P : Nat} (T : TwoAt B K w b o r L1 L2) (ob : Obj) (hP : w.heap.size = P) : TwoAt B (fun k x => K k x ∨ k = P) (w.alloc ob) b o r L1 L2 := by
  obtain ⟨h, g, F, a, c, T⟩ := T
  have hb := al1 w ob
  have T1 : TwoAt B K (w.alloc ob) b o r L1 L2 := TwoAt.later ⟨h, g, F, a, c, T⟩ hb
  refine ⟨h, g, F, a, c, T.t.later hb, T.e, T.l.later hb, T.ap, fun k x h1 h2 => ?_, fun k x h1 h2 => ?_, T.tb, T.lb, fun k x h2 => ?_, Nat.le_trans T.bs hb.size⟩
  · rcases h2 with h2 | h2
    · exact T.tk k x h1 h2
    · have := T.t.m.lies k x h1; omega
  · rcases h2 with h2 | h2
    · exact T.lk k x h1 h2
    · have := T.l.lies k x h1; omega
  · rcases h2 with h2 | h2
    · have := T.kl k x h2; simp; omega
    · simp; omega
theorem TwoAt.less {K' : Foot} (T : TwoAt B K w b o r L1 L2) (hk : ∀ k x, K' k x → K k x) : TwoAt B K' w b o r L1 L2 := by
  obtain ⟨h, g, F, a, c, T⟩ := T
  exact ⟨h, g, F, a, c, T.t, T.e, T.l, T.ap, fun k x h1 h2 => T.tk k x h1 (hk k x h2), fun k x h1 h2 => T.lk k x h1 (hk k x h2), T.tb, T.lb, fun k x h2 => T.kl k x (hk k x h2), T.bs⟩
end Go.Proofs.Ytbempjkkohjnbaa

/- Does: one call of each, the same answer. -/
namespace Go.Proofs.Ytbempjkkohjnbaa
open Go.RowKit Tr
open Ky (less)

variable {B : Nat} {K : Foot} {w : World} {b o r : Nat} {L : List Pr}
def stepL (ask : Int) (key v : Str) (L : List Pr) : List Pr := if ask = 0 then putL key v L else if ask = 1 then delL key L else L
theorem eql_self (t : TypeId) (a : Str) : binOp .eql t (.string ⟨a.toArray⟩) (.string ⟨a.toArray⟩) = pure (.bool true) := by rw [str_eql]; simp
theorem low_all {w W V : World} {ob : Obj} (h1 : B ≤ w.heap.size) (hW : W = w.alloc ob) (hb : Below B W V) : Below B w V := by
  subst hW
  exact (((Below.refl B w).alloc h1 ob)).trans hb
theorem kept_all {w W V : World} {ob : Obj} {K' : Foot} (hl : Lies w K) (hW : W = w.alloc ob) (hk : Kept K' W V) (hs : ∀ k x, K k x → K' k x) : Kept K w V := by
  subst hW
  exact (below_kept hl (al1 w ob)).trans (fun k x h => hk k x (hs k x h))
theorem TwoAt.bs {L1 L2 : List Pr} (T : TwoAt B K w b o r L1 L2) : B ≤ w.heap.size ∧ Lies w K := by
  obtain ⟨h, g, F, a, c, T⟩ := T
  exact ⟨T.bs, T.kl⟩
def DoesTo (B : Nat) (K : Foot) (w : World) (b o r : Nat) (L' : List Pr) (V : World) : Prop := TwoAt B K V b o r L' L' ∧ Below B w V ∧ Kept K w V
theorem does_fin {w W V1 V2 : World} {ob : Obj} {L L' : List Pr} (T : TwoAt B K w b o r L L) (hW : W = w.alloc ob) (h1 : Below B W V1 ∧ Kept (fun k x => K k x ∨ k = w.heap.size) W V1) (h2 : TwoAt B (fun k x => K k x ∨ k = w.heap.size) V2 b o r L' L' ∧ Below B V1 V2 ∧ Kept (fun k x => K k x ∨ k = w.heap.size) V1 V2) : DoesTo B K w b o r L' V2 :=
  ⟨h2.1.less (fun _ _ h => .inl h), low_all T.bs.1 hW (h1.1.trans h2.2.1), kept_all T.bs.2 hW (h1.2.trans h2.2.2) (fun _ _ h => .inl h)⟩
set_option maxHeartbeats 2000000 in
set_option maxRecDepth 100000 in
theorem does_any (ask : Int) (key v : Str) (T : TwoAt B K w b o r L L) (hn : L.length ≤ 100000) :
    Calls Try.prog 30 #[ptrV b, ptrV r, .agg #[.int .i64 ask, .string ⟨key.toArray⟩, .string ⟨v.toArray⟩]] w fun e V => e = .returned (.bool true) ∧ DoesTo B K w b o r (stepL ask key v L) V := by
  obtain ⟨W, hW⟩ : ∃ W, w.alloc (.cells #[.int .i64 ask, .string ⟨key.toArray⟩, .string ⟨v.toArray⟩] 58) = W := ⟨_, rfl⟩
  have HT := Lib.hid (T.keep (.cells #[.int .i64 ask, .string ⟨key.toArray⟩, .string ⟨v.toArray⟩] 58) rfl)
  have x0 : W.cell? ⟨w.heap.size, 0, none⟩ = some (.int .i64 ask) := by rw [← hW]; simp
  have x1 : W.cell? ⟨w.heap.size, 1, none⟩ = some (.string ⟨key.toArray⟩) := by rw [← hW]; simp
  have x2 : W.cell? ⟨w.heap.size, 2, none⟩ = some (.string ⟨v.toArray⟩) := by rw [← hW]; simp
  rw [hW] at HT
  have H0 := Lib.hid (And.intro T hW.symm)
  obtain ⟨oo, ho⟩ : ∃ x, putO key v L = x := ⟨_, rfl⟩
  obtain ⟨oi, hoi⟩ : ∃ x, putI key v L = x := ⟨_, rfl⟩
  obtain ⟨oc, hoc⟩ : ∃ x, putC key v = x := ⟨_, rfl⟩
  obtain ⟨go, hgo⟩ : ∃ x, getO key L = x := ⟨_, rfl⟩
  obtain ⟨gc, hgc⟩ : ∃ x, getC key L = x := ⟨_, rfl⟩
  have HN := Lib.hid hn
  have HP := Lib.hid (And.intro ho (And.intro hoi hoc))
  have HG := Lib.hid (And.intro hgo hgc)
  have q1 := eql_self 9 oo
  have q2 := eql_self 9 go
  have HC0 : Hid (Calls Try.prog 19 #[ptrV b, .string ⟨key.toArray⟩, .string ⟨v.toArray⟩] W fun e V => e = .returned (.tuple #[.string ⟨oo.toArray⟩, .bool oi, .int .i64 oc]) ∧ (V.cell? ⟨w.heap.size, 1, none⟩ = some (.string ⟨key.toArray⟩) ∧ V.cell? ⟨w.heap.size, 2, none⟩ = some (.string ⟨v.toArray⟩)) ∧ Hid (TwoAt B (fun k x => K k x ∨ k = w.heap.size) V b o r (putL key v L) L ∧ Below B W V ∧ Kept (fun k x => K k x ∨ k = w.heap.size) W V)) := Lib.hid (by
    refine (two_put key v HT.out hn).mono ?_
    rintro e V ⟨rfl, t, hb, hk⟩
    exact ⟨by rw [ho, hoi, hoc], ⟨(hk _ 1 (.inr rfl)).1.trans x1, (hk _ 2 (.inr rfl)).1.trans x2⟩, Lib.hid ⟨t, hb, hk⟩⟩)
  have HD0 : Hid (∀ V, TwoAt B (fun k x => K k x ∨ k = w.heap.size) V b o r (putL key v L) L → Calls Try.prog 48 #[ptrV r, .string ⟨key.toArray⟩, .string ⟨v.toArray⟩] V fun e V2 => e = .returned (.tuple #[.string ⟨oo.toArray⟩, .bool oi, .int .i64 oc]) ∧ Hid (TwoAt B (fun k x => K k x ∨ k = w.heap.size) V2 b o r (putL key v L) (putL key v L) ∧ Below B V V2 ∧ Kept (fun k x => K k x ∨ k = w.heap.size) V V2)) := Lib.hid (fun V t => by
    refine (two_putD key v t hn).mono ?_
    rintro e V2 ⟨rfl, h⟩
    exact ⟨by rw [ho, hoi, hoc], Lib.hid h⟩)
  have HC1 : Hid (Calls Try.prog 34 #[ptrV b, .string ⟨key.toArray⟩] W fun e V => e = .returned (.tuple #[.string ⟨go.toArray⟩, .int .i64 gc]) ∧ (V.cell? ⟨w.heap.size, 1, none⟩ = some (.string ⟨key.toArray⟩) ∧ V.cell? ⟨w.heap.size, 2, none⟩ = some (.string ⟨v.toArray⟩)) ∧ Hid (TwoAt B (fun k x => K k x ∨ k = w.heap.size) V b o r (delL key L) L ∧ Below B W V ∧ Kept (fun k x => K k x ∨ k = w.heap.size) W V)) := Lib.hid (by
    refine (two_del key HT.out hn).mono ?_
    rintro e V ⟨rfl, t, hb, hk⟩
    exact ⟨by rw [hgo, hgc], ⟨(hk _ 1 (.inr rfl)).1.trans x1, (hk _ 2 (.inr rfl)).1.trans x2⟩, Lib.hid ⟨t, hb, hk⟩⟩)
  have HD1 : Hid (∀ V, TwoAt B (fun k x => K k x ∨ k = w.heap.size) V b o r (delL key L) L → Calls Try.prog 49 #[ptrV r, .string ⟨key.toArray⟩] V fun e V2 => e = .returned (.tuple #[.string ⟨go.toArray⟩, .int .i64 gc]) ∧ Hid (TwoAt B (fun k x => K k x ∨ k = w.heap.size) V2 b o r (delL key L) (delL key L) ∧ Below B V V2 ∧ Kept (fun k x => K k x ∨ k = w.heap.size) V V2)) := Lib.hid (fun V t => by
    refine (two_delD key t hn).mono ?_
    rintro e V2 ⟨rfl, h⟩
    exact ⟨by rw [hgo, hgc], Lib.hid h⟩)
  have HC2 : Hid (Calls Try.prog 33 #[ptrV b, .string ⟨key.toArray⟩] W fun e V => e = .returned (.tuple #[.string ⟨go.toArray⟩, .int .i64 gc]) ∧ (V.cell? ⟨w.heap.size, 1, none⟩ = some (.string ⟨key.toArray⟩) ∧ V.cell? ⟨w.heap.size, 2, none⟩ = some (.string ⟨v.toArray⟩)) ∧ Hid (TwoAt B (fun k x => K k x ∨ k = w.heap.size) V b o r (L) L ∧ Below B W V ∧ Kept (fun k x => K k x ∨ k = w.heap.size) W V)) := Lib.hid (by
    refine (two_get key HT.out).mono ?_
    rintro e V ⟨rfl, t, hb, hk⟩
    exact ⟨by rw [hgo, hgc], ⟨(hk _ 1 (.inr rfl)).1.trans x1, (hk _ 2 (.inr rfl)).1.trans x2⟩, Lib.hid ⟨t, hb, hk⟩⟩)
  have HD2 : Hid (∀ V, TwoAt B (fun k x => K k x ∨ k = w.heap.size) V b o r (L) L → Calls Try.prog 50 #[ptrV r, .string ⟨key.toArray⟩] V fun e V2 => e = .returned (.tuple #[.string ⟨go.toArray⟩, .int .i64 gc]) ∧ Hid (TwoAt B (fun k x => K k x ∨ k = w.heap.size) V2 b o r (L) (L) ∧ Below B V V2 ∧ Kept (fun k x => K k x ∨ k = w.heap.size) V V2)) := Lib.hid (fun V t => by
    refine (two_getD key t hn).mono ?_
    rintro e V2 ⟨rfl, h⟩
    exact ⟨by rw [hgo, hgc], Lib.hid h⟩)
  clear T ho hoi hoc hgo hgc hn HP HG HN
  by_cases h0 : ask = 0
  · subst h0
    have HE : Hid (stepL 0 key v L = putL key v L) := Lib.hid (by simp [stepL])
    go_enter Try.func30, Try.ntmps30
    go_wp2_with (first
      | (go_at_call 19; refine HC0.out.mono ?_; rintro e V ⟨rfl, ⟨y1, y2⟩, H1⟩)
      | (go_at_call 48; refine (HD0.out _ H1.out.1).mono ?_; rintro e V2 ⟨rfl, H2⟩))
    go_ret
    rw [HE.out]
    exact ⟨rfl, does_fin H0.out.1 H0.out.2 H1.out.2 H2.out⟩
  by_cases h1 : ask = 1
  · subst h1
    have HE : Hid (stepL 1 key v L = delL key L) := Lib.hid (by simp [stepL])
    go_enter Try.func30, Try.ntmps30
    go_wp2_with (first
      | (go_at_call 34; refine HC1.out.mono ?_; rintro e V ⟨rfl, ⟨y1, y2⟩, H1⟩)
      | (go_at_call 49; refine (HD1.out _ H1.out.1).mono ?_; rintro e V2 ⟨rfl, H2⟩))
    go_ret
    rw [HE.out]
    exact ⟨rfl, does_fin H0.out.1 H0.out.2 H1.out.2 H2.out⟩
  · have HE : Hid (stepL ask key v L = L) := Lib.hid (by simp [stepL, h0, h1])
    go_enter Try.func30, Try.ntmps30
    go_wp2_with (first
      | (go_at_call 33; refine HC2.out.mono ?_; rintro e V ⟨rfl, ⟨y1, y2⟩, H1⟩)
      | (go_at_call 50; refine (HD2.out _ H1.out.1).mono ?_; rintro e V2 ⟨rfl, H2⟩))
    go_ret
    rw [HE.out]
    exact ⟨rfl, does_fin H0.out.1 H0.out.2 H1.out.2 H2.out⟩
end Go.Proofs.Ytbempjkkohjnbaa

/- The laws of package tree: calls; Few. -/
namespace Go.Proofs.Ytbempjkkohjnbaa
open Go.RowKit Tr
open Ky (less)
/-- A call: what, a key, a value. -/
abbrev TOp := Int × Str × Str
/-- Its texts are not longer than texts are. -/
def OkTop (x : TOp) : Prop := x.2.1.length ≤ 9223372036854775807 ∧ x.2.2.length ≤ 9223372036854775807
def topsV (L : List TOp) : List Value := L.flatMap fun x => [.int .i64 x.1, .string ⟨x.2.1.toArray⟩, .string ⟨x.2.2.toArray⟩]
theorem topsV_length (L : List TOp) : (topsV L).length = L.length * 3 := by
  induction L with
  | nil => rfl
  | cons x L ih =>
    have : topsV (x :: L) = [.int .i64 x.1, .string ⟨x.2.1.toArray⟩, .string ⟨x.2.2.toArray⟩] ++ topsV L := by simp [topsV]
    rw [this, List.length_append, ih, List.length_cons]
    simp
    omega
theorem topsV_one (L : List TOp) : ∀ u ∈ topsV L, u.oneCell' = true := by
  intro u hu
  obtain ⟨x, _, h⟩ := List.mem_flatMap.1 hu
  simp only [List.mem_cons, List.not_mem_nil, or_false] at h
  rcases h with rfl | rfl | rfl <;> rfl
theorem topsV_get {L : List TOp} {j : Nat} {x : TOp} (hj : L[j]? = some x) : (topsV L)[j * 3]? = some (.int .i64 x.1) ∧ (topsV L)[j * 3 + 1]? = some (.string ⟨x.2.1.toArray⟩) ∧ (topsV L)[j * 3 + 2]? = some (.string ⟨x.2.2.toArray⟩) := by
  induction L generalizing j with
  | nil => simp at hj
  | cons y L ih =>
    have hy : topsV (y :: L) = [.int .i64 y.1, .string ⟨y.2.1.toArray⟩, .string ⟨y.2.2.toArray⟩] ++ topsV L := by simp [topsV]
    match j with
    | 0 =>
      simp at hj
      subst hj
      rw [hy]
      simp
    | j + 1 =>
      obtain ⟨h0, h1, h2⟩ := ih (j := j) (by simpa using hj)
      rw [hy]
      refine ⟨?_, ?_, ?_⟩
      · rw [List.getElem?_append_right (by simp; omega)]; rw [← h0]; congr 1; simp; omega
      · rw [List.getElem?_append_right (by simp; omega)]; rw [← h1]; congr 1; simp; omega
      · rw [List.getElem?_append_right (by simp; omega)]; rw [← h2]; congr 1; simp; omega
theorem top_at {w : World} {a : Option Addr} {n c : Nat} {L : List TOp} (h : Rd w 3 a n c (topsV L)) {j : Nat} {x : TOp} (hj : L[j]? = some x) :
    ∃ b o, a = some ⟨b, o, none⟩ ∧ w.cell? ⟨b, o + j * 3, none⟩ = some (.int .i64 x.1) ∧ w.cell? ⟨b, o + j * 3 + 1, none⟩ = some (.string ⟨x.2.1.toArray⟩) ∧ w.cell? ⟨b, o + j * 3 + 2, none⟩ = some (.string ⟨x.2.2.toArray⟩) := by
  obtain ⟨h0, h1, h2⟩ := topsV_get hj
  obtain ⟨b, o, e, hc⟩ := h.addr (by intro hn; rw [hn] at h0; simp at h0)
  refine ⟨b, o, e, hc _ _ h0, ?_, ?_⟩
  · have := hc _ _ h1
    rwa [← Nat.add_assoc] at this
  · have := hc _ _ h2
    rwa [← Nat.add_assoc] at this
/-- Not too many, not too long. -/
def fewL (L : List TOp) : Prop := (∀ x ∈ L, x.2.1.length ≤ 300 ∧ x.2.2.length ≤ 300) ∧ L.length ≤ 200
instance (L : List TOp) : Decidable (fewL L) := inferInstanceAs (Decidable (_ ∧ _))
set_option maxRecDepth 100000 in
set_option maxHeartbeats 1000000 in
theorem few_any (a : Option Addr) (c : Nat) (L : List TOp) (hn : L.length ≤ 9223372036854775807) (hs : ∀ x ∈ L, x.2.1.length ≤ 9223372036854775807 ∧ x.2.2.length ≤ 9223372036854775807) (w : World) (h : Rd w 3 a L.length c (topsV L)) :
    Calls Try.prog 29 #[.slice a L.length c] w fun e w' => e = .returned (.bool (decide (fewL L))) ∧ w = w' := by
  generalize hr : decide (fewL L) = r
  have HR := Lib.hid hr
  have HS := Lib.hid hs
  have HB := Lib.hid h
  clear h hr hs
  go_enter Try.func29, Try.ntmps29
  go_wp2
  go_loopw [3] (fun i wr => ∃ (k : Nat), k ≤ L.length ∧ i = .int .i64 k ∧ Hid (∀ x ∈ L.take k, x.2.1.length ≤ 300 ∧ x.2.2.length ≤ 300) ∧ wr = w) (fun i _ => L.length - (intOf i).toNat)
  case atStart => exact ⟨0, by omega, rfl, Lib.hid (fun x hx => by cases hx), rfl⟩
  case round =>
    obtain ⟨k, hk, rfl, HK, rfl⟩ := hrel
    by_cases hlt : k < L.length
    · obtain ⟨⟨ki, n, t⟩, hx⟩ : ∃ x, L[k]? = some x := ⟨_, List.getElem?_eq_getElem hlt⟩
      obtain ⟨b, o, rfl, x0, x1, x2⟩ := top_at HB.out hx
      have HX := Lib.hid hx
      have htl := HS.out _ (List.mem_of_getElem? hx)
      obtain ⟨hnl, htl⟩ := htl
      simp only at x1 x2 htl hnl
      have k0 : (0 : Int) ≤ (k : Int) := by omega
      have k1 : (k : Int) < (L.length : Int) := by omega
      clear hx x0
      by_cases hb1 : n.length ≤ 300
      · have hb1' : (n.length : Int) ≤ 300 := by omega
        by_cases ht : t.length ≤ 300
        · have ht' : (t.length : Int) ≤ 300 := by omega
          have HK2 : Hid (∀ x ∈ L.take (k + 1), x.2.1.length ≤ 300 ∧ x.2.2.length ≤ 300) := Lib.hid (fun x hx => by
            rw [List.take_add_one, HX.out] at hx
            rcases List.mem_append.1 hx with h | h
            · exact HK.out x h
            · simp at h
              subst h
              exact ⟨hb1, ht⟩)
          go_wp2
          go_roundw
          case rel => exact ⟨k + 1, by omega, by go_num, HK2, by first | trivial | rfl⟩
          case measure => simp [intOf]; omega
        · have ht' : (300 : Int) < (t.length : Int) := by omega
          have hrf : r = false := by
            rw [← HR.out, decide_eq_false_iff_not]
            intro h
            exact ht (h.1 _ (List.mem_of_getElem? HX.out)).2
          subst hrf
          go_wp2
          go_ret
          exact ⟨rfl, rfl⟩
      · have hb1' : (300 : Int) < (n.length : Int) := by omega
        have hrf : r = false := by
          rw [← HR.out, decide_eq_false_iff_not]
          intro h
          exact hb1 (h.1 _ (List.mem_of_getElem? HX.out)).1
        subst hrf
        go_wp2
        go_ret
        exact ⟨rfl, rfl⟩
    · obtain rfl : k = L.length := by omega
      by_cases hl : L.length ≤ 200
      · have hl' : (L.length : Int) ≤ 200 := by omega
        have hrt : r = true := by
          rw [← HR.out, decide_eq_true_eq]
          exact ⟨by have := HK.out; rwa [List.take_length] at this, hl⟩
        subst hrt
        go_wp2
        go_ret
        exact ⟨by first | rfl | (simp; done) | (simp; omega), rfl⟩
      · have hl' : ¬ (L.length : Int) ≤ 200 := by omega
        have hrf : r = false := by
          rw [← HR.out, decide_eq_false_iff_not]
          intro h
          exact hl h.2
        subst hrf
        go_wp2
        go_ret
        exact ⟨by first | rfl | (simp; done) | (simp; omega), rfl⟩
end Go.Proofs.Ytbempjkkohjnbaa
