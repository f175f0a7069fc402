/- Joined: Tblaw1, Tblaw2, Tblaw3, Tblaw4. -/
import Derived.Test.YtecnijnmgdfdhaaGreatYTbdoc4
namespace Go.Proofs.YtecnijnmgdfdhaaGreat
namespace Tb
open Go.RowKit Tr
open Ky (less)
abbrev OpT := Int × Str × R4
def OkOp (x : OpT) : Prop := x.2.1.length ≤ 9223372036854775807 ∧ In4 x.2.2
def opV (x : OpT) : List Value := [.int .i64 x.1, .string ⟨x.2.1.toArray⟩, .int .i64 x.2.2.1, .int .i64 x.2.2.2.1, .int .i64 x.2.2.2.2.1, .int .i64 x.2.2.2.2.2]
def opsV (L : List OpT) : List Value := L.flatMap opV
theorem opsV_cons (x : OpT) (L : List OpT) : opsV (x :: L) = .int .i64 x.1 :: .string ⟨x.2.1.toArray⟩ :: .int .i64 x.2.2.1 :: .int .i64 x.2.2.2.1 :: .int .i64 x.2.2.2.2.1 :: .int .i64 x.2.2.2.2.2 :: opsV L := rfl
theorem opsV_length (L : List OpT) : (opsV L).length = L.length * 6 := by
 induction L with
 | nil => rfl
 | cons x L ih => rw [opsV_cons]; simp only [List.length_cons]; rw [ih]; omega
theorem opsV_one (L : List OpT) : ∀ u ∈ opsV L, u.oneCell' = true := by
 intro u hu
 obtain ⟨x, _, h⟩ := List.mem_flatMap.1 hu
 simp only [opV, List.mem_cons, List.not_mem_nil, or_false] at h
 rcases h with rfl | rfl | rfl | rfl | rfl | rfl <;> rfl
theorem opsV_drop : ∀ (L : List OpT) (n : Nat), (opsV L).drop (n * 6) = opsV (L.drop n)
 | [], n => by simp [opsV]
 | p :: L, 0 => by simp
 | p :: L, n + 1 => by
  rw [List.drop_succ_cons, opsV_cons, ← opsV_drop L n, show (n + 1) * 6 = n * 6 + 1 + 1 + 1 + 1 + 1 + 1 by omega]
  simp only [List.drop_succ_cons]
theorem opsV_get {L : List OpT} {i : Nat} {x : OpT} (h : L[i]? = some x) (k : Nat) (hk : k < 6) : (opsV L)[i * 6 + k]? = (opV x)[k]? := by
 have h1 := opsV_drop L i
 obtain ⟨hi, rfl⟩ := List.getElem?_eq_some_iff.1 h
 rw [List.drop_eq_getElem_cons hi, opsV_cons] at h1
 rw [← List.getElem?_drop, h1]
 have : k = 0 ∨ k = 1 ∨ k = 2 ∨ k = 3 ∨ k = 4 ∨ k = 5 := by omega
 rcases this with rfl | rfl | rfl | rfl | rfl | rfl <;> rfl
theorem op_at {w : World} {a : Option Addr} {n c : Nat} {L : List OpT} (h : Rd w 6 a n c (opsV L)) {j : Nat} {x : OpT} (hj : L[j]? = some x) :
  ∃ b o, a = some ⟨b, o, none⟩ ∧ w.cell? ⟨b, o + j * 6, none⟩ = some (.int .i64 x.1) ∧ w.cell? ⟨b, o + j * 6 + 1, none⟩ = some (.string ⟨x.2.1.toArray⟩) ∧ w.cell? ⟨b, o + j * 6 + 2, none⟩ = some (.int .i64 x.2.2.1) ∧ w.cell? ⟨b, o + j * 6 + 3, none⟩ = some (.int .i64 x.2.2.2.1) ∧ w.cell? ⟨b, o + j * 6 + 4, none⟩ = some (.int .i64 x.2.2.2.2.1) ∧ w.cell? ⟨b, o + j * 6 + 5, none⟩ = some (.int .i64 x.2.2.2.2.2) := by
 have h0 := opsV_get hj 0 (by omega)
 have h1 := opsV_get hj 1 (by omega)
 have h2 := opsV_get hj 2 (by omega)
 have h3 := opsV_get hj 3 (by omega)
 have h4 := opsV_get hj 4 (by omega)
 have h5 := opsV_get hj 5 (by omega)
 obtain ⟨b, o, e, hc⟩ := h.addr (by intro hn; rw [hn] at h0; simp [opV] at h0)
 have k1 := hc _ _ h1
 have k2 := hc _ _ h2
 have k3 := hc _ _ h3
 have k4 := hc _ _ h4
 have k5 := hc _ _ h5
 rw [← Nat.add_assoc] at k1 k2 k3 k4 k5
 exact ⟨b, o, e, hc _ _ h0, k1, k2, k3, k4, k5⟩
def fewT (L : List OpT) : Prop := (∀ x ∈ L, x.2.1.length ≤ 100) ∧ L.length ≤ 100
instance (L : List OpT) : Decidable (fewT L) := inferInstanceAs (Decidable (_ ∧ _))
set_option maxRecDepth 100000 in
set_option maxHeartbeats 1000000 in
theorem few_any (a : Option Addr) (c : Nat) (L : List OpT) (hn : L.length ≤ 9223372036854775807) (hs : ∀ x ∈ L, OkOp x) (w : World) (h : Rd w 6 a L.length c (opsV L)) :
  Calls Tryz.prog 31 #[.slice a L.length c] w fun e w' => e = .returned (.bool (decide (fewT L))) ∧ w = w' := by
 generalize hr : decide (fewT L) = r
 have HR := Lib.hid hr
 have HS := Lib.hid hs
 have HB := Lib.hid h
 clear h hr hs
 go_enter Tryz.func31, Tryz.ntmps31
 go_wp2
 go_loopw [3] (fun i wr => ∃ (k : Nat), k ≤ L.length ∧ i = .int .i64 k ∧ Hid (∀ x ∈ L.take k, x.2.1.length ≤ 100) ∧ wr = w) (fun i _ => L.length - (intOf i).toNat)
 case atStart => exact ⟨0, by omega, rfl, Lib.hid (fun x hx => by cases hx), rfl⟩
 case round =>
  obtain ⟨k, hk, rfl, HK, rfl⟩ := hrel
  by_cases hlt : k < L.length
  ·obtain ⟨⟨ki, n, t⟩, hx⟩ : ∃ x, L[k]? = some x := ⟨_, List.getElem?_eq_getElem hlt⟩
   obtain ⟨b, o, rfl, x0, x1, _⟩ := op_at HB.out hx
   have HX := Lib.hid hx
   obtain ⟨hnl, _⟩ := HS.out _ (List.mem_of_getElem? hx)
   simp only at x1 hnl
   have k0 : (0 : Int) ≤ (k : Int) := by omega
   have k1 : (k : Int) < (L.length : Int) := by omega
   clear hx x0
   by_cases hb1 : n.length ≤ 100
   ·have hb1' : (n.length : Int) ≤ 100 := by omega
    have HK2 : Hid (∀ x ∈ L.take (k + 1), x.2.1.length ≤ 100) := Lib.hid (fun x hx => by
     rw [List.take_add_one, HX.out] at hx
     rcases List.mem_append.1 hx with h | h
     ·exact HK.out x h
     ·simp at h
      subst h
      exact hb1)
    go_wp2
    go_roundw
    case rel => exact ⟨k + 1, by omega, by go_num, HK2, by first | trivial | rfl⟩
    case measure => simp [intOf]; omega
   ·have hb1' : (100 : Int) < (n.length : Int) := by omega
    have hrf : r = false := by
     rw [← HR.out, decide_eq_false_iff_not]
     intro h
     exact hb1 (h.1 _ (List.mem_of_getElem? HX.out))
    subst hrf
    go_wp2
    go_ret
    exact ⟨rfl, rfl⟩
  ·obtain rfl : k = L.length := by omega
   have k1 : ¬ (L.length : Int) < (L.length : Int) := by omega
   rw [List.take_length] at HK
   by_cases hl : L.length ≤ 100
   ·have hl' : (L.length : Int) ≤ 100 := by omega
    have hrt : r = true := by rw [← HR.out, decide_eq_true_eq]; exact ⟨HK.out, hl⟩
    subst hrt
    go_wp2
    go_ret
    exact ⟨rfl, rfl⟩
   ·have hl' : ¬ (L.length : Int) ≤ 100 := by omega
    have hrf : r = false := by rw [← HR.out, decide_eq_false_iff_not]; exact fun h => hl h.2
    subst hrf
    go_wp2
    go_ret
    exact ⟨rfl, rfl⟩
def okMost (m : Int) : Bool := decide (1 ≤ m ∧ m ≤ 1024)
theorem right_any (m : Int) (w : World) : Calls Tryz.prog 10 #[.int .i64 m] w fun e w' => e = .returned (.bool (okMost m)) ∧ w = w' := by
 by_cases h1 : 1 ≤ m
 ·by_cases h2 : m ≤ 1024
  ·rw [show okMost m = true by unfold okMost; simp [h1, h2]]
   go_enter Tryz.func10, Tryz.ntmps10
   go_wp2
   go_ret
   exact ⟨rfl, rfl⟩
  ·rw [show okMost m = false by unfold okMost; simp [h1, h2]]
   go_enter Tryz.func10, Tryz.ntmps10
   go_wp2
   go_ret
   exact ⟨rfl, rfl⟩
 ·rw [show okMost m = false by unfold okMost; simp [h1]]
  go_enter Tryz.func10, Tryz.ntmps10
  go_wp2
  go_ret
  exact ⟨rfl, rfl⟩
def stepT (most : Nat) (x : OpT) (L : List Pr) : List Pr := if x.1 = 0 then putT x.2.1 x.2.2 most L else if x.1 = 1 then delT x.2.1 L else L
def runT (most : Nat) (l : List OpT) : List Pr := l.foldl (fun L x => stepT most x L) []
theorem runT_succ {most : Nat} {l : List OpT} {j : Nat} {x : OpT} (h : l[j]? = some x) : runT most (l.take (j + 1)) = stepT most x (runT most (l.take j)) := by
 unfold runT
 rw [List.take_add_one, h, List.foldl_append]
 rfl
section
variable {B : Nat} {w0 w V : World} {X Y : List Rs} {tb r most o : Nat} {L : List Pr}
set_option maxHeartbeats 8000000 in
set_option maxRecDepth 100000 in
theorem own_does (x : OpT) (hx : OkOp x) (h : Own B w0 (TabR tb most o L :: DocR r most L :: X) w) :
  Calls Tryz.prog 37 #[ptrV tb, ptrV r, .agg #[.int .i64 x.1, .string ⟨x.2.1.toArray⟩, .int .i64 x.2.2.1, .int .i64 x.2.2.2.1, .int .i64 x.2.2.2.2.1, .int .i64 x.2.2.2.2.2]] w fun e V => e = .returned (.bool true) ∧ Own B w0 (TabR tb most o (stepT most x L) :: DocR r most (stepT most x L) :: X) V := by
 obtain ⟨ask, k, r0, r1, r2, r3⟩ := x
 have ok := own_tabOk h
 have HB := Lib.hid (own_cells h #[.int .i64 ask, .string ⟨k.toArray⟩, .int .i64 r0, .int .i64 r1, .int .i64 r2, .int .i64 r3] 43)
 obtain ⟨W, hW⟩ : ∃ W, w.alloc (.cells #[.int .i64 ask, .string ⟨k.toArray⟩, .int .i64 r0, .int .i64 r1, .int .i64 r2, .int .i64 r3] 43) = W := ⟨_, rfl⟩
 rw [hW] at HB
 obtain ⟨P, hP⟩ : ∃ P, w.heap.size = P := ⟨_, rfl⟩
 rw [hP] at HB
 have HC : Hid (∀ (Y : List Rs) V, Own B w0 Y V → CellsR P [.int .i64 ask, .string ⟨k.toArray⟩, .int .i64 r0, .int .i64 r1, .int .i64 r2, .int .i64 r3] ∈ Y → V.cell? ⟨P, 0, none⟩ = some (.int .i64 ask) ∧ V.cell? ⟨P, 1, none⟩ = some (.string ⟨k.toArray⟩) ∧ V.cell? ⟨P, 2, none⟩ = some (.int .i64 r0) ∧ V.cell? ⟨P, 3, none⟩ = some (.int .i64 r1) ∧ V.cell? ⟨P, 4, none⟩ = some (.int .i64 r2) ∧ V.cell? ⟨P, 5, none⟩ = some (.int .i64 r3)) := Lib.hid (fun Y V h hm =>
  ⟨(own_cellM h hm (i := 0) rfl).1, (own_cellM h hm (i := 1) rfl).1, (own_cellM h hm (i := 2) rfl).1, (own_cellM h hm (i := 3) rfl).1, (own_cellM h hm (i := 4) rfl).1, (own_cellM h hm (i := 5) rfl).1⟩)
 obtain ⟨x0, x1, x2, x3, x4, x5⟩ := HC.out _ _ HB.out (by simp)
 have HL : Hid (L.length ≤ 100000) := Lib.hid (by have := ok.len; have := ok.hi; omega)
 have HIn := Lib.hid hx.2
 clear h ok hx
 obtain ⟨⟨g0, g1, g2, g3⟩, hgr⟩ : ∃ g, getR k L = g := ⟨_, rfl⟩
 have hq := Rw.eqlRow g0 g1 g2 g3 g0 g1 g2 g3 true (by simp)
 by_cases h0 : ask = 0
 ·subst h0
  have HS : Hid (stepT most (0, k, r0, r1, r2, r3) L = putT k (r0, r1, r2, r3) most L) := Lib.hid (by simp [stepT])
  rw [HS.out]
  have HP : Hid (∀ (X : List Rs) V, Own B w0 (TabR tb most o L :: X) V → Calls Tryz.prog 42 #[ptrV tb, .string ⟨k.toArray⟩, .agg #[.int .i64 r0, .int .i64 r1, .int .i64 r2, .int .i64 r3]] V fun e V2 => e = .returned (.tuple #[.agg #[.int .i64 g0, .int .i64 g1, .int .i64 g2, .int .i64 g3], .bool (putB k L), .int .i64 (putE k most L)]) ∧ Own B w0 (TabR tb most o (putT k (r0, r1, r2, r3) most L) :: X) V2) := Lib.hid (fun X V h => by
   have := own_tabPut k (r0, r1, r2, r3) HIn.out h
   rwa [hgr] at this)
  have HQ : Hid (∀ (X : List Rs) V, Own B w0 (DocR r most L :: X) V → Calls Tryz.prog 39 #[ptrV r, .string ⟨k.toArray⟩, .agg #[.int .i64 r0, .int .i64 r1, .int .i64 r2, .int .i64 r3]] V fun e V2 => e = .returned (.tuple #[.agg #[.int .i64 g0, .int .i64 g1, .int .i64 g2, .int .i64 g3], .bool (putB k L), .int .i64 (putE k most L)]) ∧ Own B w0 (DocR r most (putT k (r0, r1, r2, r3) most L) :: X) V2) := Lib.hid (fun X V h => by
   have := own_docPut k (r0, r1, r2, r3) HIn.out HL.out h
   rwa [hgr] at this)
  obtain ⟨pb, hpb⟩ : ∃ pb, putB k L = pb := ⟨_, rfl⟩
  obtain ⟨pe, hpe⟩ : ∃ pe, putE k most L = pe := ⟨_, rfl⟩
  rw [hpb, hpe] at HP HQ
  clear hpb hpe hgr
  go_enter Tryz.func37, Tryz.ntmps37
  go_wp2_with (first
   | (go_at_call 42; refine (HP.out _ _ HB.out.swap).mono ?_; rintro e V ⟨rfl, h1⟩; have H1 := Lib.hid (own_newRow h1 (g0, g1, g2, g3) 41); obtain ⟨y0, y1, y2, y3, y4, y5⟩ := HC.out _ _ H1.out (by simp); clear h1)
   | (go_at_call 39; refine (HQ.out _ _ (H1.out.perm (List.perm_middle (l₁ := [_, _, _])))).mono ?_; rintro e V2 ⟨rfl, h2⟩; have H2 := Lib.hid (own_newRow h2 (g0, g1, g2, g3) 41); obtain ⟨z0, z1, z2, z3⟩ := own_rowM (p := V.heap.size) (r := (g0, g1, g2, g3)) H2.out (by simp); obtain ⟨u0, u1, u2, u3⟩ := own_rowM (p := V2.heap.size) (r := (g0, g1, g2, g3)) H2.out (by simp); clear h2))
  go_ret
  exact ⟨rfl, (H2.out.drop.swap.drop.perm (List.perm_middle (l₁ := [_, _]))).drop.swap⟩
 by_cases h1 : ask = 1
 ·subst h1
  have HS : Hid (stepT most (1, k, r0, r1, r2, r3) L = delT k L) := Lib.hid (by simp [stepT])
  rw [HS.out]
  have HP : Hid (∀ (X : List Rs) V, Own B w0 (TabR tb most o L :: X) V → Calls Tryz.prog 43 #[ptrV tb, .string ⟨k.toArray⟩] V fun e V2 => e = .returned (.tuple #[.agg #[.int .i64 g0, .int .i64 g1, .int .i64 g2, .int .i64 g3], .int .i64 (getE k L)]) ∧ Own B w0 (TabR tb most o (delT k L) :: X) V2) := Lib.hid (fun X V h => by
   have := own_tabDel k h
   rwa [hgr] at this)
  have HQ : Hid (∀ (X : List Rs) V, Own B w0 (DocR r most L :: X) V → Calls Tryz.prog 40 #[ptrV r, .string ⟨k.toArray⟩] V fun e V2 => e = .returned (.tuple #[.agg #[.int .i64 g0, .int .i64 g1, .int .i64 g2, .int .i64 g3], .int .i64 (getE k L)]) ∧ Own B w0 (DocR r most (delT k L) :: X) V2) := Lib.hid (fun X V h => by
   have := own_docDel k HL.out h
   rwa [hgr] at this)
  obtain ⟨pe, hpe⟩ : ∃ pe, getE k L = pe := ⟨_, rfl⟩
  rw [hpe] at HP HQ
  clear hpe hgr h0
  go_enter Tryz.func37, Tryz.ntmps37
  go_wp2_with (first
   | (go_at_call 43; refine (HP.out _ _ HB.out.swap).mono ?_; rintro e V ⟨rfl, h1⟩; have H1 := Lib.hid (own_newRow h1 (g0, g1, g2, g3) 41); obtain ⟨y0, y1, y2, y3, y4, y5⟩ := HC.out _ _ H1.out (by simp); clear h1)
   | (go_at_call 40; refine (HQ.out _ _ (H1.out.perm (List.perm_middle (l₁ := [_, _, _])))).mono ?_; rintro e V2 ⟨rfl, h2⟩; have H2 := Lib.hid (own_newRow h2 (g0, g1, g2, g3) 41); obtain ⟨z0, z1, z2, z3⟩ := own_rowM (p := V.heap.size) (r := (g0, g1, g2, g3)) H2.out (by simp); obtain ⟨u0, u1, u2, u3⟩ := own_rowM (p := V2.heap.size) (r := (g0, g1, g2, g3)) H2.out (by simp); clear h2))
  go_ret
  exact ⟨rfl, (H2.out.drop.swap.drop.perm (List.perm_middle (l₁ := [_, _]))).drop.swap⟩
 have HS : Hid (stepT most (ask, k, r0, r1, r2, r3) L = L) := Lib.hid (by simp [stepT, h0, h1])
 rw [HS.out]
 have HP : Hid (∀ (X : List Rs) V, Own B w0 (TabR tb most o L :: X) V → Calls Tryz.prog 29 #[ptrV tb, .string ⟨k.toArray⟩] V fun e V2 => e = .returned (.tuple #[.agg #[.int .i64 g0, .int .i64 g1, .int .i64 g2, .int .i64 g3], .int .i64 (getE k L)]) ∧ Below V.heap.size V V2) := Lib.hid (fun X V h => by
  have := own_tabGet k h
  rwa [hgr] at this)
 have HQ : Hid (∀ (X : List Rs) V, Own B w0 (DocR r most L :: X) V → Calls Tryz.prog 41 #[ptrV r, .string ⟨k.toArray⟩] V fun e V2 => e = .returned (.tuple #[.agg #[.int .i64 g0, .int .i64 g1, .int .i64 g2, .int .i64 g3], .int .i64 (getE k L)]) ∧ Below V.heap.size V V2) := Lib.hid (fun X V h => by
  obtain ⟨a, c, hA⟩ := own_docOpen h
  obtain ⟨_, ht⟩ := own_docM hA (List.mem_cons_self ..)
  have := getD_any k (by have := HL.out; omega) V ht
  rwa [hgr] at this)
 obtain ⟨pe, hpe⟩ : ∃ pe, getE k L = pe := ⟨_, rfl⟩
 rw [hpe] at HP HQ
 clear hpe hgr
 go_enter Tryz.func37, Tryz.ntmps37
 go_wp2_with (first
  | (go_at_call 29; refine (HP.out _ _ HB.out.swap).mono ?_; rintro e V ⟨rfl, h1⟩; have H1 := Lib.hid (own_newRow (HB.out.later h1) (g0, g1, g2, g3) 41); obtain ⟨y0, y1, y2, y3, y4, y5⟩ := HC.out _ _ H1.out (by simp); clear h1)
  | (go_at_call 41; refine (HQ.out _ _ (H1.out.perm (List.perm_middle (l₁ := [_, _, _])))).mono ?_; rintro e V2 ⟨rfl, h2⟩; have H2 := Lib.hid (own_newRow (H1.out.later h2) (g0, g1, g2, g3) 41); obtain ⟨z0, z1, z2, z3⟩ := own_rowM (p := V.heap.size) (r := (g0, g1, g2, g3)) H2.out (by simp); obtain ⟨u0, u1, u2, u3⟩ := own_rowM (p := V2.heap.size) (r := (g0, g1, g2, g3)) H2.out (by simp); clear h2))
 go_ret
 exact ⟨rfl, H2.out.drop.drop.drop⟩
end
end Tb
end Go.Proofs.YtecnijnmgdfdhaaGreat

namespace Go.Proofs.YtecnijnmgdfdhaaGreat
namespace Tb
open Go.RowKit Tr
open Ky (less)
def textsV (l : List Str) : List Value := l.map fun s => .string ⟨s.toArray⟩
theorem keysV_texts (l : List Pr) : keysV l = textsV (l.map fun p => kOf p.1) := by unfold keysV textsV; rw [List.map_map]; rfl
theorem text_at {w : World} {a : Option Addr} {n c : Nat} {l : List Str} (h : Rd w 1 a n c (textsV l)) {j : Nat} {s : Str} (hj : l[j]? = some s) : ∃ b o, a = some ⟨b, o, none⟩ ∧ w.cell? ⟨b, o + j, none⟩ = some (.string ⟨s.toArray⟩) := by
 have h0 : (textsV l)[j]? = some (.string ⟨s.toArray⟩) := by unfold textsV; rw [List.getElem?_map, hj]; rfl
 obtain ⟨b, o, e, hc⟩ := h.addr (by intro hn; rw [hn] at h0; simp at h0)
 exact ⟨b, o, e, hc _ _ h0⟩
set_option maxHeartbeats 1000000 in
theorem texts_any (a : Option Addr) (c : Nat) (l : List Str) (b : Option Addr) (d : Nat) (m : List Str) (w : World) (hl : l.length ≤ 9223372036854775807) (h1 : Rd w 1 a l.length c (textsV l)) (h2 : Rd w 1 b m.length d (textsV m)) :
  Calls Tryz.prog 19 #[.slice a l.length c, .slice b m.length d] w fun e V => e = .returned (.bool (decide (l = m))) ∧ Below w.heap.size w V := by
 by_cases hn : l.length = m.length
 case neg =>
  have k1 : ¬ (l.length : Int) = (m.length : Int) := by omega
  have hd : decide (l = m) = false := by simp; intro e; exact hn (by rw [e])
  rw [hd]
  clear h1 h2 hd hn
  go_enter Tryz.func19, Tryz.ntmps19
  go_wp2
  go_ret
  exact ⟨rfl, Below.refl _ _⟩
 generalize hr : decide (l = m) = r
 have HR := Lib.hid hr
 have H1 := Lib.hid h1
 have H2 := Lib.hid h2
 obtain ⟨N, hN⟩ : ∃ N, l.length = N := ⟨_, rfl⟩
 rw [hN] at hn H1 hl ⊢
 rw [← hn] at H2 ⊢
 have HN := Lib.hid (And.intro hN hn)
 clear h1 h2 hr hN hn
 go_enter Tryz.func19, Tryz.ntmps19
 go_wp2
 go_loopw [5] (fun i wr => ∃ (k : Nat), k ≤ N ∧ i = .int .i64 k ∧ Hid (l.take k = m.take k) ∧ Hid (Below w.heap.size w wr)) (fun i _ => N - (intOf i).toNat)
 case atStart => exact ⟨0, by omega, rfl, Lib.hid (by simp), Lib.hid (Below.refl _ _)⟩
 case round =>
  obtain ⟨k, hk, rfl, HK, HB⟩ := hrel
  have k0 : (0 : Int) ≤ (k : Int) := by omega
  by_cases hlt : k < N
  ·obtain ⟨s, hs⟩ : ∃ s, l[k]? = some s := ⟨_, List.getElem?_eq_getElem (by rw [HN.out.1]; exact hlt)⟩
   obtain ⟨t, ht⟩ : ∃ t, m[k]? = some t := ⟨_, List.getElem?_eq_getElem (by rw [← HN.out.2]; exact hlt)⟩
   obtain ⟨sb, so, rfl, x0⟩ := text_at H1.out hs
   obtain ⟨tb', to', rfl, x1⟩ := text_at H2.out ht
   have y0 := old_cell x0 HB.out
   have y1 := old_cell x1 HB.out
   have k1 : (k : Int) < (N : Int) := by omega
   have hq := str_neq 9 s t
   have HS := Lib.hid (And.intro hs ht)
   clear hs ht x0 x1
   by_cases he : s = t
   ·subst he
    rw [show (s == s) = true by simp] at hq
    have HK2 : Hid (l.take (k + 1) = m.take (k + 1)) := Lib.hid (by rw [List.take_add_one, List.take_add_one, HK.out, HS.out.1, HS.out.2])
    go_wp2
    go_quiet (fail)
    have HB2 := Lib.hid (HB.out.trans (below_drewN wr nq |>.mono HB.out.size))
    go_wp2
    go_roundw
    case rel => exact ⟨k + 1, by omega, by go_num, HK2, HB2⟩
    case measure => simp [intOf]; omega
   ·rw [show (s == t) = false by simpa using he] at hq
    have hrf : r = false := by
     rw [← HR.out, decide_eq_false_iff_not]
     rintro rfl
     have := HS.out
     rw [this.1] at this
     exact he (Option.some.inj this.2)
    subst hrf
    clear he
    go_wp2
    go_quiet (fail)
    have HB2 := Lib.hid (HB.out.trans (below_drewN wr nq |>.mono HB.out.size))
    go_wp2
    go_ret
    exact ⟨rfl, HB2.out⟩
  ·obtain rfl : k = N := by omega
   have k1 : ¬ (k : Int) < (k : Int) := by omega
   have hrt : r = true := by
    rw [← HR.out, decide_eq_true_eq]
    have := HK.out
    rwa [List.take_of_length_le (by rw [HN.out.1]; exact Nat.le_refl _), List.take_of_length_le (by rw [← HN.out.2]; exact Nat.le_refl _)] at this
   subst hrt
   go_wp2
   go_ret
   exact ⟨rfl, HB.out⟩
/-! ### The chapter's examples -/
theorem ex_in (v : Int) (h : -9 ≤ v ∧ v ≤ 9) : In4 (v, 0, 0, 0) := by
 intro i
 have h0 : Ky.In v := by unfold Ky.In; omega
 have h1 : Ky.In 0 := by unfold Ky.In; omega
 unfold col Rw.rowF
 split <;> assumption
end Tb
end Go.Proofs.YtecnijnmgdfdhaaGreat

namespace Go.Proofs.YtecnijnmgdfdhaaGreat
namespace Tb
open Go.RowKit Tr
open Ky (less)
end Tb
end Go.Proofs.YtecnijnmgdfdhaaGreat

namespace Go.Proofs.YtecnijnmgdfdhaaGreat
namespace Tb
open Go.RowKit Tr
open Ky (less)
attribute [local go_sem] Oper.semAt_some
section
variable {B : Nat} {w0 w V : World} {X Y : List Rs} {tb r most o : Nat} {L : List Pr}
theorem own_docNew (h : Own B w0 X w) (most : Nat) (t : TypeId) : Own B w0 (DocR w.heap.size most [] :: X) (w.alloc (.cells #[.slice none 0 0, .int .i64 most] t)) := by
 refine h.add (al1 w _) (F := lstF w.heap.size noCells) ⟨noCells, none, 0, ⟨by simp, by simp, by simp, Sl.none_ _ 5, fun _ h => h, fun _ _ h => h.elim⟩, rfl⟩ (fun k x e => ?_)
 rcases e with rfl | e
 ·exact Nat.le_refl _
 ·exact e.elim

set_option maxHeartbeats 4000000 in
set_option maxRecDepth 100000 in
theorem own_made (most : Nat) (hm : 1 ≤ most ∧ most ≤ 1024) (a : Option Addr) (c : Nat) (l : List OpT) (hr : Rd w 6 a l.length c (opsV l)) (hok : ∀ x ∈ l, OkOp x) (h : Own B w0 X w) :
  Calls Tryz.prog 13 #[.int .i64 most, .slice a l.length c] w fun e V => ∃ tb r, e = .returned (.tuple #[ptrV tb, ptrV r]) ∧ Below w.heap.size w V ∧ Own B w0 (TabR tb most 2 (runT most l) :: DocR r most (runT most l) :: X) V := by
 have hcap := hr.cap
 have hle := hr.le
 unfold maxLen at hcap
 have HN := Lib.hid (own_tabNew most 2 hm (by decide) (by decide) (Own.nil w))
 have HR := Lib.hid hr
 have HOk := Lib.hid hok
 have H := Lib.hid h
 clear hr hok h hm
 go_enter Tryz.func13, Tryz.ntmps13
 go_wp2_with (go_at_call 45; refine HN.out.mono ?_; rintro e V0 ⟨tb, rfl, h0⟩; have H0 := Lib.hid (own_docNew h0 most 47); clear h0)
 obtain ⟨r, hrr⟩ : ∃ r, V0.heap.size = r := ⟨_, rfl⟩
 rw [hrr] at H0 ⊢
 clear hrr
 go_loopw [9] (fun i wr => ∃ (j : Nat), j ≤ l.length ∧ i = .int .i64 j ∧ Hid (Own w.heap.size w [TabR tb most 2 (runT most (l.take j)), DocR r most (runT most (l.take j))] wr)) (fun i _ => l.length - (intOf i).toNat)
 case atStart => exact ⟨0, by omega, rfl, Lib.hid H0.out.swap⟩
 case round =>
  obtain ⟨j, hj, rfl, HJ⟩ := hrel
  have k0 : (0 : Int) ≤ (j : Int) := by omega
  by_cases hlt : j < l.length
  ·obtain ⟨⟨ask, k, r0, r1, r2, r3⟩, hx⟩ : ∃ x, l[j]? = some x := ⟨_, List.getElem?_eq_getElem hlt⟩
   obtain ⟨lb, lo, rfl, z0, z1, z2, z3, z4, z5⟩ := op_at HR.out hx
   have y0 := old_cell z0 HJ.out.low
   have y1 := old_cell z1 HJ.out.low
   have y2 := old_cell z2 HJ.out.low
   have y3 := old_cell z3 HJ.out.low
   have y4 := old_cell z4 HJ.out.low
   have y5 := old_cell z5 HJ.out.low
   have k1 : (j : Int) < (l.length : Int) := by omega
   have HD := Lib.hid (own_does (ask, k, r0, r1, r2, r3) (HOk.out _ (List.mem_of_getElem? hx)) HJ.out)
   rw [← runT_succ hx] at HD
   clear hx z0 z1 z2 z3 z4 z5
   go_wp2_with (go_at_call 37; refine HD.out.mono ?_; rintro e V2 ⟨rfl, h2⟩; have H2 := Lib.hid h2; clear h2)
   go_roundw
   case rel => exact ⟨j + 1, by omega, by go_num, H2⟩
   case measure => simp [intOf]; omega
  ·obtain rfl : j = l.length := by omega
   have k1 : ¬ (l.length : Int) < (l.length : Int) := by omega
   rw [List.take_length] at HJ
   go_wp2
   go_ret2
   exact ⟨tb, r, rfl, HJ.out.low, H.out.beside HJ.out⟩
set_option maxHeartbeats 4000000 in
set_option maxRecDepth 100000 in
theorem own_sameD (h : Own B w0 (TabR tb most o L :: DocR r most L :: X) w) :
  Calls Tryz.prog 22 #[ptrV tb, ptrV r] w fun e V => e = .returned (.bool true) ∧ Below w.heap.size w V := by
 have ok := own_tabOk h
 obtain ⟨la, lc, hA⟩ := own_docOpen h.swap
 obtain ⟨F, hl⟩ := own_docM hA (List.mem_cons_self ..)
 have hn : L.length ≤ 1024 := by have := ok.len; have := ok.hi; omega
 refine calls_marks Tryz.func22 rfl ?_
 simp only [Tryz.ntmps22, List.size_toArray, List.length_cons, List.length_nil, Nat.reduceAdd, Nat.reduceSub, Array.replicate_succ, Array.replicate_zero, List.push_toArray, List.append_toArray, List.nil_append, List.cons_append]
 have hb0 : Below w.heap.size w ((w.alloc (.cells #[ptrV r] 30)).alloc (.cells #[.bool false] 4)) := (al1 w _).trans ((al1 (w.alloc (.cells #[ptrV r] 30)) _).mono (by simp))
 obtain ⟨W1, hW1⟩ : ∃ W1, (w.alloc (.cells #[ptrV r] 30)).alloc (.cells #[.bool false] 4) = W1 := ⟨_, rfl⟩
 have s1 : W1.heap.size = w.heap.size + 2 := by rw [← hW1]; simp
 have c3 : W1.cell? ⟨w.heap.size, 0, none⟩ = some (ptrV r) := by rw [← hW1]; simp
 have c4 : W1.cell? ⟨w.heap.size + 1, 0, none⟩ = some (.bool false) := by rw [← hW1]; simp
 have f4 : W1.frozen? ⟨w.heap.size + 1, 0, none⟩ = false := by rw [← hW1]; simp
 rw [hW1] at hb0
 have HA := Lib.hid (own_tabAll (h.later hb0))
 have HLen := Lib.hid (fun V (hb : Below w.heap.size w V) => own_tabLen (h.later hb))
 have HD := Lib.hid (And.intro ok.ok (And.intro hl (And.intro hn (And.intro hb0 (And.intro s1 (And.intro c3 (And.intro c4 f4)))))))
 clear h ok hA hl hn hb0 s1 c3 c4 f4
 have q0 := fun x y w => eql_func_nil Tryz.underlying101 (.func 80) x y w
 refine wpIn_wide.2 ?_
 go_wp2_with (go_at_call 51; refine HA.out.mono ?_; rintro e V ⟨Bn, rfl, hAt, hb⟩; have HX := Lib.hid (And.intro hAt.out hb); clear hAt hb)
 obtain ⟨p, hp⟩ : ∃ p, w.heap.size = p := ⟨_, rfl⟩
 obtain ⟨u, hu⟩ : ∃ u, V.heap.size = u := ⟨_, rfl⟩
 obtain ⟨N, hN⟩ : ∃ N, L.length = N := ⟨_, rfl⟩
 obtain ⟨W0, hW0⟩ : ∃ W0, V.alloc (.cells #[.int .i64 0] 3) = W0 := ⟨_, rfl⟩
 have HV := Lib.hid (And.intro hp (And.intro hu (And.intro hN hW0)))
 have HW : Hid (W0.heap.size = u + 1 ∧ p + 1 < u ∧ W0.cell? ⟨u, 0, none⟩ = some (.int .i64 0) ∧ W0.frozen? ⟨u, 0, none⟩ = false ∧ Below V.heap.size V W0) := Lib.hid (by
  have hs := HX.out.2.size
  have s1 := HD.out.2.2.2.2.1
  refine ⟨by rw [← hW0, ← hu]; simp, by omega, by rw [← hW0, ← hu]; simp, by rw [← hW0, ← hu]; simp, by rw [← hW0]; exact al1 V _⟩)
 have HK : Hid (∀ (W2 : World), Fr (fun k _ => k = u) W0 W2 → W2.cell? ⟨p, 0, none⟩ = some (ptrV r) ∧ W2.cell? ⟨p + 1, 0, none⟩ = some (.bool false) ∧ W2.frozen? ⟨p + 1, 0, none⟩ = false ∧ Tdl W2 r F la lc most L ∧ Below w.heap.size w W2) := Lib.hid (fun W2 hf => by
  obtain ⟨h1, h3, h4, h5, h6, h7, h8, h9⟩ := HD.out
  obtain ⟨k1, k3⟩ := HX.out
  have hbV : Below w.heap.size w V := h5.trans (k3.mono h5.size)
  have hbW : Below w.heap.size w W0 := hbV.trans (HW.out.2.2.2.2.mono hbV.size)
  have hb1 : Below W1.heap.size W1 W0 := k3.trans (HW.out.2.2.2.2.mono k3.size)
  have hlt := HW.out.2.1
  have hws := HW.out.1
  rw [hp] at h7 h8 h9
  have hf1 : Below w.heap.size w W2 := hbW.trans (hf.below (B := w.heap.size) hbW.size (fun k x e => by omega))
  refine ⟨cell_fr hf (old_cell h7 hb1) (by omega), cell_fr hf (old_cell h8 hb1) (by omega), ?_, h3.later hf1, hf1⟩
  rw [hf.froz (p + 1) 0 (by omega) (by omega), hb1.frozen (p := ⟨p + 1, 0, none⟩) (show p + 1 < W1.heap.size by omega)]; exact h9)
 obtain ⟨R, hR1, hR2⟩ := HX.out.1.tells HD.out.1 (by have := HD.out.2.2.1; omega)
 have HRr := Lib.hid (And.intro hR1 hR2)
 have HRu : Hid (∀ k, R k → k < W0.heap.size ∧ k ≠ u) := Lib.hid (fun k hk => by
  have h1 := (HRr.out.1 k hk).2
  have h2 := HW.out.1
  omega)
 clear hW1 hR1 hR2
 rw [hp, hu, hW0]
 clear hp hu hN hW0
 refine (wpIn_wide (n := 3)).1 ?_
 refine' wpIn_range_box (by omega) (gf := 80) (lb := #[.pointer (some ⟨Bn, 0, none⟩)]) rfl (enters_any Tryz.func80 (by kernel_rfl) rfl) (encs := rowE) (stops := True) (xs := L)
  (R := R) (K0 := fun _ => False) (fun o1 o2 => HRr.out.2 _ (HW.out.2.2.2.2.trans (((al1 W0 o1).trans ((al1 (W0.alloc o1) o2).mono (by simp))).mono HW.out.2.2.2.2.size))) (fun x => rfl) (fun k hk => (HRu.out k hk).1) (fun k hk => hk.elim)
  (Boxd (fun l : List Pr => .int .i64 (l.length : Nat)) W0 u) (fun _ _ _ _ => False) (Boxd.clos (by rw [HW.out.1]; omega))
  (fun _ _ _ _ _ _ h _ _ => h) (.inl trivial) (Boxd.start HW.out.2.2.1 HW.out.2.2.2.1)
  (fun x => .cells #[.int .i64 (decT x.2).1, .int .i64 (decT x.2).2.1, .int .i64 (decT x.2).2.2.1, .int .i64 (decT x.2).2.2.2] 41) (fun K pre W h k hk => (h.2.2.2 k hk).2) _ ?assign ?body ?done ?stop
 case assign =>
  intro l' x W2 K1 hK1
  simp only [rowE, rowW]
  gi_wp2
  obtain ⟨r', hr'⟩ : ∃ r', W2.heap.size = r' := ⟨_, rfl⟩
  rw [hr'] at hK1 ⊢
  exact hK1
 case body =>
  rintro l' r' K pre x post W2 hx _ hI hbox hrK hrR hrS
  have HI := Lib.hid hI
  obtain ⟨h4, h5, h6, h7⟩ := hI
  obtain ⟨y1, _, _, y4, _⟩ := HK.out W2 h6
  have hj : L[pre.length]? = some x := by rw [hx]; simp
  obtain ⟨pb, po, rfl, z1, z2, z3, z4, z5⟩ := y4.row hj
  have b0 : W2.cell? ⟨r', 0, none⟩ = some (.int .i64 (decT x.2).1) := (cell_of_row W2 r' 0 _ _ _ hbox).trans rfl
  have b1 : W2.cell? ⟨r', 1, none⟩ = some (.int .i64 (decT x.2).2.1) := (cell_of_row W2 r' 1 _ _ _ hbox).trans rfl
  have b2 : W2.cell? ⟨r', 2, none⟩ = some (.int .i64 (decT x.2).2.2.1) := (cell_of_row W2 r' 2 _ _ _ hbox).trans rfl
  have b3 : W2.cell? ⟨r', 3, none⟩ = some (.int .i64 (decT x.2).2.2.2) := (cell_of_row W2 r' 3 _ _ _ hbox).trans rfl
  have z0 := y4.c0
  rw [HV.out.2.2.1] at z0
  obtain ⟨j, hjj⟩ : ∃ j, pre.length = j := ⟨_, rfl⟩
  have hlt : j < N := by rw [← HV.out.2.2.1, ← hjj, hx]; simp
  have HJ := Lib.hid hjj
  dsimp only at h4
  rw [hjj] at h4 z1 z2 z3 z4 z5
  have g1 : ¬ (N : Int) ≤ (j : Int) := by omega
  have hd : decide ((N : Int) ≤ (j : Int)) = false := by simp; omega
  have g2 : (j : Int) < (N : Int) := by omega
  have g3 : (0 : Int) ≤ (j : Int) := by omega
  have q1 := str_neq 9 x.1 x.1
  rw [show (x.1 == x.1) = true by simp] at q1
  clear hx hj y4 h6 h7 hjj hbox hrK hrR hrS
  obtain ⟨xk, xv⟩ := x
  obtain ⟨⟨r0, r1, r2, r3⟩, hr4⟩ : ∃ r4, decT xv = r4 := ⟨_, rfl⟩
  simp only [hr4] at z2 z3 z4 z5 b0 b1 b2 b3 ⊢
  clear hr4
  have q2 := Rw.neqRow r0 r1 r2 r3 r0 r1 r2 r3 true (by simp)
  gi_wp2
  refine wpIn_region_still_tail 30 (fun _ => trivial) rfl (fun _ _ _ _ h => calls_round l' h) (by kernel_rfl) (by kernel_rfl) (by kernel_rfl) ?_
  simp only [List.take_succ_cons, List.take_zero, List.drop_succ_cons, List.drop_zero]
  repeat ((with_reducible refine wpStill_step (fun K hK => ?_)); go_simp; (with_reducible refine hK _ ?_); clear hK K)
  with_reducible refine wpStill_nil ?_
  gi_wp2
  have hst := Boxd.step (f := fun l : List Pr => Value.int .i64 (l.length : Nat)) (x := (xk, xv)) (by rw [HW.out.1]; omega) HI.out ((Below.refl _ W2).drew) R (fun k hk => (HRu.out k hk).2)
  have e1 : wrap64 ((j : Int) + 1) = (((pre ++ [(xk, xv)]).length : Nat) : Int) := by
   have h9 := HD.out.2.2.1
   have h8 := HV.out.2.2.1
   have h7 := HJ.out
   rw [show ((pre ++ [(xk, xv)]).length : Int) = (j : Int) + 1 by simp [h7]]
   exact Go.IntWalk.wrap64_in _ (by omega)
  rw [e1]
  exact hst
 case stop =>
  intro D c K pre x post W2 _ h
  exact h.elim
 case done =>
  rintro D K W3 ⟨h4, h5, h6, h7⟩ _ hKD hsD hDef
  obtain ⟨y1, y2, y3, y4, y5⟩ := HK.out W3 h6
  have z0 := y4.c0
  rw [HV.out.2.2.1] at z0
  simp only [HV.out.2.2.1] at h4
  have HL : Hid (Calls Tryz.prog 26 #[ptrV tb] W3.drew fun e V2 => e = .returned (.int .i64 (N : Nat)) ∧ V2 = W3.drew) := Lib.hid (by
   have := HLen.out W3.drew (y5.trans ((below_drewN W3 1).mono y5.size))
   rw [HV.out.2.2.1] at this
   exact this.mono (fun e V h => ⟨h.1, h.2.symm⟩))
  have H3 := Lib.hid (And.intro h6 (And.intro h7 (And.intro hKD (And.intro hsD (And.intro hDef y5)))))
  have hd : decide ((N : Int) = (N : Int)) = true := by simp
  clear h6 h7 hKD hsD hDef y4 y5
  gi_wp2
  go_wp2
  refine wp_only ?_
  refine wp_region_still_tail 13 (by kernel_rfl) (by kernel_rfl) ?_
  simp only [List.take_succ_cons, List.take_zero, List.drop_succ_cons, List.drop_zero]
  iterate 9 ((with_reducible refine wpStill_step (fun K hK => ?_)); go_simp; (with_reducible refine hK _ ?_); clear hK K)
  (with_reducible refine wpStill_step (fun K hK => ?_))
  go_simp
  refine ⟨_, HL.out, hK _ ?_⟩
  clear hK K
  iterate 3 ((with_reducible refine wpStill_step (fun K hK => ?_)); go_simp; (with_reducible refine hK _ ?_); clear hK K)
  with_reducible refine wpStill_nil ?_
  go_wp2
  simp only [onlyK]
  go_wp2
  obtain ⟨h6, h7, hKD, hsD, hDef, y5⟩ := H3.out
  have hws := HW.out.1
  have hpu := HW.out.2.1
  have hne : D ≠ p + 1 := by omega
  have hpp := HV.out.1
  refine leave_marks [D] _ (by simp) (fun E hE => ?_) (fun W' hf => ?_)
  ·simp at hE; subst hE
   exact (Below.heap_setCell W3 ⟨p + 1, 0, none⟩ (.bool true) E hne).trans hDef
  ·have hc : W'.cell? ⟨p + 1, 0, none⟩ = some (.bool true) := cell_fr hf (show (W3.setCell ⟨p + 1, 0, none⟩ (.bool true)).cell? ⟨p + 1, 0, none⟩ = some (.bool true) from World.cell?_setCell_same' _ _ _ (by rw [y2]; rfl)) (by simp; omega)
   have b4 : Below w.heap.size w (W3.setCell ⟨p + 1, 0, none⟩ (.bool true)).drew := (y5.setCell (p := ⟨p + 1, 0, none⟩) (by show w.heap.size ≤ p + 1; omega) _).drew
   exact ⟨_, results_bool rfl _ W' (p + 1) (.bool true) rfl hc, rfl, b4.trans (hf.below (B := w.heap.size) b4.size (fun k x e => by simp at e; subst e; omega))⟩
end
end Tb
end Go.Proofs.YtecnijnmgdfdhaaGreat
