/- Joined: Tblaw1, Tblaw2. -/
import Derived.Test.YtecnijnmgdfdhaaGreatYTbdoc4
/- The laws of package table: calls; Few, Right, Does. -/
namespace Go.Proofs.YtecnijnmgdfdhaaGreat
namespace Tb
open Go.RowKit Tr
open Ky (less)
/-- A call: what, a key, a row. -/
abbrev OpT := Int × Str × R4
def OkOp (x : OpT) : Prop := x.2.1.length ≤ 9223372036854775807 ∧ In4 x.2.2
def opV (x : OpT) : List Value := [.int .i64 x.1, .string ⟨x.2.1.toArray⟩, .int .i64 x.2.2.1, .int .i64 x.2.2.2.1, .int .i64 x.2.2.2.2.1, .int .i64 x.2.2.2.2.2]
def opsV (L : List OpT) : List Value := L.flatMap opV
theorem opsV_cons (x : OpT) (L : List OpT) : opsV (x :: L) = .int .i64 x.1 :: .string ⟨x.2.1.toArray⟩ :: .int .i64 x.2.2.1 :: .int .i64 x.2.2.2.1 :: .int .i64 x.2.2.2.2.1 :: .int .i64 x.2.2.2.2.2 :: opsV L := rfl
theorem opsV_length (L : List OpT) : (opsV L).length = L.length * 6 := by
  induction L with
  | nil => rfl
  | cons x L ih => rw [opsV_cons]; simp only [List.length_cons]; rw [ih]; omega
theorem opsV_one (L : List OpT) : ∀ u ∈ opsV L, u.oneCell' = true := by
  intro u hu
  obtain ⟨x, _, h⟩ := List.mem_flatMap.1 hu
  simp only [opV, List.mem_cons, List.not_mem_nil, or_false] at h
  rcases h with rfl | rfl | rfl | rfl | rfl | rfl <;> rfl
theorem opsV_drop : ∀ (L : List OpT) (n : Nat), (opsV L).drop (n * 6) = opsV (L.drop n)
  | [], n => by simp [opsV]
  | p :: L, 0 => by simp
  | p :: L, n + 1 => by
    rw [List.drop_succ_cons, opsV_cons, ← opsV_drop L n, show (n + 1) * 6 = n * 6 + 1 + 1 + 1 + 1 + 1 + 1 by omega]
    simp only [List.drop_succ_cons]
theorem opsV_get {L : List OpT} {i : Nat} {x : OpT} (h : L[i]? = some x) (k : Nat) (hk : k < 6) : (opsV L)[i * 6 + k]? = (opV x)[k]? := by
  have h1 := opsV_drop L i
  obtain ⟨hi, rfl⟩ := List.getElem?_eq_some_iff.1 h
  rw [List.drop_eq_getElem_cons hi, opsV_cons] at h1
  rw [← List.getElem?_drop, h1]
  have : k = 0 ∨ k = 1 ∨ k = 2 ∨ k = 3 ∨ k = 4 ∨ k = 5 := by omega
  rcases this with rfl | rfl | rfl | rfl | rfl | rfl <;> rfl
theorem op_at {w : World} {a : Option Addr} {n c : Nat} {L : List OpT} (h : Rd w 6 a n c (opsV L)) {j : Nat} {x : OpT} (hj : L[j]? = some x) :
    ∃ b o, a = some ⟨b, o, none⟩ ∧ w.cell? ⟨b, o + j * 6, none⟩ = some (.int .i64 x.1) ∧ w.cell? ⟨b, o + j * 6 + 1, none⟩ = some (.string ⟨x.2.1.toArray⟩) ∧ w.cell? ⟨b, o + j * 6 + 2, none⟩ = some (.int .i64 x.2.2.1) ∧ w.cell? ⟨b, o + j * 6 + 3, none⟩ = some (.int .i64 x.2.2.2.1) ∧ w.cell? ⟨b, o + j * 6 + 4, none⟩ = some (.int .i64 x.2.2.2.2.1) ∧ w.cell? ⟨b, o + j * 6 + 5, none⟩ = some (.int .i64 x.2.2.2.2.2) := by
  have h0 := opsV_get hj 0 (by omega)
  have h1 := opsV_get hj 1 (by omega)
  have h2 := opsV_get hj 2 (by omega)
  have h3 := opsV_get hj 3 (by omega)
  have h4 := opsV_get hj 4 (by omega)
  have h5 := opsV_get hj 5 (by omega)
  obtain ⟨b, o, e, hc⟩ := h.addr (by intro hn; rw [hn] at h0; simp [opV] at h0)
  have k1 := hc _ _ h1
  have k2 := hc _ _ h2
  have k3 := hc _ _ h3
  have k4 := hc _ _ h4
  have k5 := hc _ _ h5
  rw [← Nat.add_assoc] at k1 k2 k3 k4 k5
  exact ⟨b, o, e, hc _ _ h0, k1, k2, k3, k4, k5⟩
/-- Not too many, not too long. -/
def fewT (L : List OpT) : Prop := (∀ x ∈ L, x.2.1.length ≤ 100) ∧ L.length ≤ 100
instance (L : List OpT) : Decidable (fewT L) := inferInstanceAs (Decidable (_ ∧ _))
set_option maxRecDepth 100000 in
set_option maxHeartbeats 1000000 in
theorem few_any (a : Option Addr) (c : Nat) (L : List OpT) (hn : L.length ≤ 9223372036854775807) (hs : ∀ x ∈ L, OkOp x) (w : World) (h : Rd w 6 a L.length c (opsV L)) :
    Calls Tryz.prog 31 #[.slice a L.length c] w fun e w' => e = .returned (.bool (decide (fewT L))) ∧ w = w' := by
  generalize hr : decide (fewT L) = r
  have HR := Lib.hid hr
  have HS := Lib.hid hs
  have HB := Lib.hid h
  clear h hr hs
  go_enter Tryz.func31, Tryz.ntmps31
  go_wp2
  go_loopw [3] (fun i wr => ∃ (k : Nat), k ≤ L.length ∧ i = .int .i64 k ∧ Hid (∀ x ∈ L.take k, x.2.1.length ≤ 100) ∧ wr = w) (fun i _ => L.length - (intOf i).toNat)
  case atStart => exact ⟨0, by omega, rfl, Lib.hid (fun x hx => by cases hx), rfl⟩
  case round =>
    obtain ⟨k, hk, rfl, HK, rfl⟩ := hrel
    by_cases hlt : k < L.length
    · obtain ⟨⟨ki, n, t⟩, hx⟩ : ∃ x, L[k]? = some x := ⟨_, List.getElem?_eq_getElem hlt⟩
      obtain ⟨b, o, rfl, x0, x1, _⟩ := op_at HB.out hx
      have HX := Lib.hid hx
      obtain ⟨hnl, _⟩ := HS.out _ (List.mem_of_getElem? hx)
      simp only at x1 hnl
      have k0 : (0 : Int) ≤ (k : Int) := by omega
      have k1 : (k : Int) < (L.length : Int) := by omega
      clear hx x0
      by_cases hb1 : n.length ≤ 100
      · have hb1' : (n.length : Int) ≤ 100 := by omega
        have HK2 : Hid (∀ x ∈ L.take (k + 1), x.2.1.length ≤ 100) := Lib.hid (fun x hx => by
          rw [List.take_add_one, HX.out] at hx
          rcases List.mem_append.1 hx with h | h
          · exact HK.out x h
          · simp at h
            subst h
            exact hb1)
        go_wp2
        go_roundw
        case rel => exact ⟨k + 1, by omega, by go_num, HK2, by first | trivial | rfl⟩
        case measure => simp [intOf]; omega
      · have hb1' : (100 : Int) < (n.length : Int) := by omega
        have hrf : r = false := by
          rw [← HR.out, decide_eq_false_iff_not]
          intro h
          exact hb1 (h.1 _ (List.mem_of_getElem? HX.out))
        subst hrf
        go_wp2
        go_ret
        exact ⟨rfl, rfl⟩
    · obtain rfl : k = L.length := by omega
      have k1 : ¬ (L.length : Int) < (L.length : Int) := by omega
      rw [List.take_length] at HK
      by_cases hl : L.length ≤ 100
      · have hl' : (L.length : Int) ≤ 100 := by omega
        have hrt : r = true := by rw [← HR.out, decide_eq_true_eq]; exact ⟨HK.out, hl⟩
        subst hrt
        go_wp2
        go_ret
        exact ⟨rfl, rfl⟩
      · have hl' : ¬ (L.length : Int) ≤ 100 := by omega
        have hrf : r = false := by rw [← HR.out, decide_eq_false_iff_not]; exact fun h => hl h.2
        subst hrf
        go_wp2
        go_ret
        exact ⟨rfl, rfl⟩
def okMost (m : Int) : Bool := decide (1 ≤ m ∧ m ≤ 1024)
theorem right_any (m : Int) (w : World) : Calls Tryz.prog 10 #[.int .i64 m] w fun e w' => e = .returned (.bool (okMost m)) ∧ w = w' := by
  by_cases h1 : 1 ≤ m
  · by_cases h2 : m ≤ 1024
    · rw [show okMost m = true by unfold okMost; simp [h1, h2]]
      go_enter Tryz.func10, Tryz.ntmps10
      go_wp2
      go_ret
      exact ⟨rfl, rfl⟩
    · rw [show okMost m = false by unfold okMost; simp [h1, h2]]
      go_enter Tryz.func10, Tryz.ntmps10
      go_wp2
      go_ret
      exact ⟨rfl, rfl⟩
  · rw [show okMost m = false by unfold okMost; simp [h1]]
    go_enter Tryz.func10, Tryz.ntmps10
    go_wp2
    go_ret
    exact ⟨rfl, rfl⟩
/-- What a call leaves. -/
def stepT (most : Nat) (x : OpT) (L : List Pr) : List Pr := if x.1 = 0 then putT x.2.1 x.2.2 most L else if x.1 = 1 then delT x.2.1 L else L
def runT (most : Nat) (l : List OpT) : List Pr := l.foldl (fun L x => stepT most x L) []
theorem runT_succ {most : Nat} {l : List OpT} {j : Nat} {x : OpT} (h : l[j]? = some x) : runT most (l.take (j + 1)) = stepT most x (runT most (l.take j)) := by
  unfold runT
  rw [List.take_add_one, h, List.foldl_append]
  rfl
section
variable {B : Nat} {w0 w V : World} {X Y : List Rs} {tb r most o : Nat} {L : List Pr}
set_option maxHeartbeats 8000000 in
set_option maxRecDepth 100000 in
theorem own_does (x : OpT) (hx : OkOp x) (h : Own B w0 (TabR tb most o L :: DocR r most L :: X) w) :
    Calls Tryz.prog 37 #[ptrV tb, ptrV r, .agg #[.int .i64 x.1, .string ⟨x.2.1.toArray⟩, .int .i64 x.2.2.1, .int .i64 x.2.2.2.1, .int .i64 x.2.2.2.2.1, .int .i64 x.2.2.2.2.2]] w fun e V => e = .returned (.bool true) ∧ Own B w0 (TabR tb most o (stepT most x L) :: DocR r most (stepT most x L) :: X) V := by
  obtain ⟨ask, k, r0, r1, r2, r3⟩ := x
  have ok := own_tabOk h
  have HB := Lib.hid (own_cells h #[.int .i64 ask, .string ⟨k.toArray⟩, .int .i64 r0, .int .i64 r1, .int .i64 r2, .int .i64 r3] 43)
  obtain ⟨W, hW⟩ : ∃ W, w.alloc (.cells #[.int .i64 ask, .string ⟨k.toArray⟩, .int .i64 r0, .int .i64 r1, .int .i64 r2, .int .i64 r3] 43) = W := ⟨_, rfl⟩
  rw [hW] at HB
  obtain ⟨P, hP⟩ : ∃ P, w.heap.size = P := ⟨_, rfl⟩
  rw [hP] at HB
  have HC : Hid (∀ (Y : List Rs) V, Own B w0 Y V → CellsR P [.int .i64 ask, .string ⟨k.toArray⟩, .int .i64 r0, .int .i64 r1, .int .i64 r2, .int .i64 r3] ∈ Y → V.cell? ⟨P, 0, none⟩ = some (.int .i64 ask) ∧ V.cell? ⟨P, 1, none⟩ = some (.string ⟨k.toArray⟩) ∧ V.cell? ⟨P, 2, none⟩ = some (.int .i64 r0) ∧ V.cell? ⟨P, 3, none⟩ = some (.int .i64 r1) ∧ V.cell? ⟨P, 4, none⟩ = some (.int .i64 r2) ∧ V.cell? ⟨P, 5, none⟩ = some (.int .i64 r3)) := Lib.hid (fun Y V h hm =>
    ⟨(own_cellM h hm (i := 0) rfl).1, (own_cellM h hm (i := 1) rfl).1, (own_cellM h hm (i := 2) rfl).1, (own_cellM h hm (i := 3) rfl).1, (own_cellM h hm (i := 4) rfl).1, (own_cellM h hm (i := 5) rfl).1⟩)
  obtain ⟨x0, x1, x2, x3, x4, x5⟩ := HC.out _ _ HB.out (by simp)
  have HL : Hid (L.length ≤ 100000) := Lib.hid (by have := ok.len; have := ok.hi; omega)
  have HIn := Lib.hid hx.2
  clear h ok hx
  obtain ⟨⟨g0, g1, g2, g3⟩, hgr⟩ : ∃ g, getR k L = g := ⟨_, rfl⟩
  have hq := Rw.eqlRow g0 g1 g2 g3 g0 g1 g2 g3 true (by simp)
  by_cases h0 : ask = 0
  · subst h0
    have HS : Hid (stepT most (0, k, r0, r1, r2, r3) L = putT k (r0, r1, r2, r3) most L) := Lib.hid (by simp [stepT])
    rw [HS.out]
    have HP : Hid (∀ (X : List Rs) V, Own B w0 (TabR tb most o L :: X) V → Calls Tryz.prog 42 #[ptrV tb, .string ⟨k.toArray⟩, .agg #[.int .i64 r0, .int .i64 r1, .int .i64 r2, .int .i64 r3]] V fun e V2 => e = .returned (.tuple #[.agg #[.int .i64 g0, .int .i64 g1, .int .i64 g2, .int .i64 g3], .bool (putB k L), .int .i64 (putE k most L)]) ∧ Own B w0 (TabR tb most o (putT k (r0, r1, r2, r3) most L) :: X) V2) := Lib.hid (fun X V h => by
      have := own_tabPut k (r0, r1, r2, r3) HIn.out h
      rwa [hgr] at this)
    have HQ : Hid (∀ (X : List Rs) V, Own B w0 (DocR r most L :: X) V → Calls Tryz.prog 39 #[ptrV r, .string ⟨k.toArray⟩, .agg #[.int .i64 r0, .int .i64 r1, .int .i64 r2, .int .i64 r3]] V fun e V2 => e = .returned (.tuple #[.agg #[.int .i64 g0, .int .i64 g1, .int .i64 g2, .int .i64 g3], .bool (putB k L), .int .i64 (putE k most L)]) ∧ Own B w0 (DocR r most (putT k (r0, r1, r2, r3) most L) :: X) V2) := Lib.hid (fun X V h => by
      have := own_docPut k (r0, r1, r2, r3) HIn.out HL.out h
      rwa [hgr] at this)
    obtain ⟨pb, hpb⟩ : ∃ pb, putB k L = pb := ⟨_, rfl⟩
    obtain ⟨pe, hpe⟩ : ∃ pe, putE k most L = pe := ⟨_, rfl⟩
    rw [hpb, hpe] at HP HQ
    clear hpb hpe hgr
    go_enter Tryz.func37, Tryz.ntmps37
    go_wp2_with (first
      | (go_at_call 42; refine (HP.out _ _ HB.out.swap).mono ?_; rintro e V ⟨rfl, h1⟩; have H1 := Lib.hid (own_newRow h1 (g0, g1, g2, g3) 41); obtain ⟨y0, y1, y2, y3, y4, y5⟩ := HC.out _ _ H1.out (by simp); clear h1)
      | (go_at_call 39; refine (HQ.out _ _ (H1.out.perm (List.perm_middle (l₁ := [_, _, _])))).mono ?_; rintro e V2 ⟨rfl, h2⟩; have H2 := Lib.hid (own_newRow h2 (g0, g1, g2, g3) 41); obtain ⟨z0, z1, z2, z3⟩ := own_rowM (p := V.heap.size) (r := (g0, g1, g2, g3)) H2.out (by simp); obtain ⟨u0, u1, u2, u3⟩ := own_rowM (p := V2.heap.size) (r := (g0, g1, g2, g3)) H2.out (by simp); clear h2))
    go_ret
    exact ⟨rfl, (H2.out.drop.swap.drop.perm (List.perm_middle (l₁ := [_, _]))).drop.swap⟩
  by_cases h1 : ask = 1
  · subst h1
    have HS : Hid (stepT most (1, k, r0, r1, r2, r3) L = delT k L) := Lib.hid (by simp [stepT])
    rw [HS.out]
    have HP : Hid (∀ (X : List Rs) V, Own B w0 (TabR tb most o L :: X) V → Calls Tryz.prog 43 #[ptrV tb, .string ⟨k.toArray⟩] V fun e V2 => e = .returned (.tuple #[.agg #[.int .i64 g0, .int .i64 g1, .int .i64 g2, .int .i64 g3], .int .i64 (getE k L)]) ∧ Own B w0 (TabR tb most o (delT k L) :: X) V2) := Lib.hid (fun X V h => by
      have := own_tabDel k h
      rwa [hgr] at this)
    have HQ : Hid (∀ (X : List Rs) V, Own B w0 (DocR r most L :: X) V → Calls Tryz.prog 40 #[ptrV r, .string ⟨k.toArray⟩] V fun e V2 => e = .returned (.tuple #[.agg #[.int .i64 g0, .int .i64 g1, .int .i64 g2, .int .i64 g3], .int .i64 (getE k L)]) ∧ Own B w0 (DocR r most (delT k L) :: X) V2) := Lib.hid (fun X V h => by
      have := own_docDel k HL.out h
      rwa [hgr] at this)
    obtain ⟨pe, hpe⟩ : ∃ pe, getE k L = pe := ⟨_, rfl⟩
    rw [hpe] at HP HQ
    clear hpe hgr h0
    go_enter Tryz.func37, Tryz.ntmps37
    go_wp2_with (first
      | (go_at_call 43; refine (HP.out _ _ HB.out.swap).mono ?_; rintro e V ⟨rfl, h1⟩; have H1 := Lib.hid (own_newRow h1 (g0, g1, g2, g3) 41); obtain ⟨y0, y1, y2, y3, y4, y5⟩ := HC.out _ _ H1.out (by simp); clear h1)
      | (go_at_call 40; refine (HQ.out _ _ (H1.out.perm (List.perm_middle (l₁ := [_, _, _])))).mono ?_; rintro e V2 ⟨rfl, h2⟩; have H2 := Lib.hid (own_newRow h2 (g0, g1, g2, g3) 41); obtain ⟨z0, z1, z2, z3⟩ := own_rowM (p := V.heap.size) (r := (g0, g1, g2, g3)) H2.out (by simp); obtain ⟨u0, u1, u2, u3⟩ := own_rowM (p := V2.heap.size) (r := (g0, g1, g2, g3)) H2.out (by simp); clear h2))
    go_ret
    exact ⟨rfl, (H2.out.drop.swap.drop.perm (List.perm_middle (l₁ := [_, _]))).drop.swap⟩
  have HS : Hid (stepT most (ask, k, r0, r1, r2, r3) L = L) := Lib.hid (by simp [stepT, h0, h1])
  rw [HS.out]
  have HP : Hid (∀ (X : List Rs) V, Own B w0 (TabR tb most o L :: X) V → Calls Tryz.prog 29 #[ptrV tb, .string ⟨k.toArray⟩] V fun e V2 => e = .returned (.tuple #[.agg #[.int .i64 g0, .int .i64 g1, .int .i64 g2, .int .i64 g3], .int .i64 (getE k L)]) ∧ Below V.heap.size V V2) := Lib.hid (fun X V h => by
    have := own_tabGet k h
    rwa [hgr] at this)
  have HQ : Hid (∀ (X : List Rs) V, Own B w0 (DocR r most L :: X) V → Calls Tryz.prog 41 #[ptrV r, .string ⟨k.toArray⟩] V fun e V2 => e = .returned (.tuple #[.agg #[.int .i64 g0, .int .i64 g1, .int .i64 g2, .int .i64 g3], .int .i64 (getE k L)]) ∧ Below V.heap.size V V2) := Lib.hid (fun X V h => by
    obtain ⟨a, c, hA⟩ := own_docOpen h
    obtain ⟨_, ht⟩ := own_docM hA (List.mem_cons_self ..)
    have := getD_any k (by have := HL.out; omega) V ht
    rwa [hgr] at this)
  obtain ⟨pe, hpe⟩ : ∃ pe, getE k L = pe := ⟨_, rfl⟩
  rw [hpe] at HP HQ
  clear hpe hgr
  go_enter Tryz.func37, Tryz.ntmps37
  go_wp2_with (first
    | (go_at_call 29; refine (HP.out _ _ HB.out.swap).mono ?_; rintro e V ⟨rfl, h1⟩; have H1 := Lib.hid (own_newRow (HB.out.later h1) (g0, g1, g2, g3) 41); obtain ⟨y0, y1, y2, y3, y4, y5⟩ := HC.out _ _ H1.out (by simp); clear h1)
    | (go_at_call 41; refine (HQ.out _ _ (H1.out.perm (List.perm_middle (l₁ := [_, _, _])))).mono ?_; rintro e V2 ⟨rfl, h2⟩; have H2 := Lib.hid (own_newRow (H1.out.later h2) (g0, g1, g2, g3) 41); obtain ⟨z0, z1, z2, z3⟩ := own_rowM (p := V.heap.size) (r := (g0, g1, g2, g3)) H2.out (by simp); obtain ⟨u0, u1, u2, u3⟩ := own_rowM (p := V2.heap.size) (r := (g0, g1, g2, g3)) H2.out (by simp); clear h2))
  go_ret
  exact ⟨rfl, H2.out.drop.drop.drop⟩
end
end Tb
end Go.Proofs.YtecnijnmgdfdhaaGreat

/- The laws of package table: Texts, in, awake. -/
namespace Go.Proofs.YtecnijnmgdfdhaaGreat
namespace Tb
open Go.RowKit Tr
open Ky (less)
def textsV (l : List Str) : List Value := l.map fun s => .string ⟨s.toArray⟩
theorem keysV_texts (l : List Pr) : keysV l = textsV (l.map fun p => kOf p.1) := by unfold keysV textsV; rw [List.map_map]; rfl
theorem text_at {w : World} {a : Option Addr} {n c : Nat} {l : List Str} (h : Rd w 1 a n c (textsV l)) {j : Nat} {s : Str} (hj : l[j]? = some s) : ∃ b o, a = some ⟨b, o, none⟩ ∧ w.cell? ⟨b, o + j, none⟩ = some (.string ⟨s.toArray⟩) := by
  have h0 : (textsV l)[j]? = some (.string ⟨s.toArray⟩) := by unfold textsV; rw [List.getElem?_map, hj]; rfl
  obtain ⟨b, o, e, hc⟩ := h.addr (by intro hn; rw [hn] at h0; simp at h0)
  exact ⟨b, o, e, hc _ _ h0⟩
set_option maxHeartbeats 1000000 in
theorem texts_any (a : Option Addr) (c : Nat) (l : List Str) (b : Option Addr) (d : Nat) (m : List Str) (w : World) (hl : l.length ≤ 9223372036854775807) (h1 : Rd w 1 a l.length c (textsV l)) (h2 : Rd w 1 b m.length d (textsV m)) :
    Calls Tryz.prog 19 #[.slice a l.length c, .slice b m.length d] w fun e V => e = .returned (.bool (decide (l = m))) ∧ Below w.heap.size w V := by
  by_cases hn : l.length = m.length
  case neg =>
    have k1 : ¬ (l.length : Int) = (m.length : Int) := by omega
    have hd : decide (l = m) = false := by simp; intro e; exact hn (by rw [e])
    rw [hd]
    clear h1 h2 hd hn
    go_enter Tryz.func19, Tryz.ntmps19
    go_wp2
    go_ret
    exact ⟨rfl, Below.refl _ _⟩
  generalize hr : decide (l = m) = r
  have HR := Lib.hid hr
  have H1 := Lib.hid h1
  have H2 := Lib.hid h2
  obtain ⟨N, hN⟩ : ∃ N, l.length = N := ⟨_, rfl⟩
  rw [hN] at hn H1 hl ⊢
  rw [← hn] at H2 ⊢
  have HN := Lib.hid (And.intro hN hn)
  clear h1 h2 hr hN hn
  go_enter Tryz.func19, Tryz.ntmps19
  go_wp2
  go_loopw [5] (fun i wr => ∃ (k : Nat), k ≤ N ∧ i = .int .i64 k ∧ Hid (l.take k = m.take k) ∧ Hid (Below w.heap.size w wr)) (fun i _ => N - (intOf i).toNat)
  case atStart => exact ⟨0, by omega, rfl, Lib.hid (by simp), Lib.hid (Below.refl _ _)⟩
  case round =>
    obtain ⟨k, hk, rfl, HK, HB⟩ := hrel
    have k0 : (0 : Int) ≤ (k : Int) := by omega
    by_cases hlt : k < N
    · obtain ⟨s, hs⟩ : ∃ s, l[k]? = some s := ⟨_, List.getElem?_eq_getElem (by rw [HN.out.1]; exact hlt)⟩
      obtain ⟨t, ht⟩ : ∃ t, m[k]? = some t := ⟨_, List.getElem?_eq_getElem (by rw [← HN.out.2]; exact hlt)⟩
      obtain ⟨sb, so, rfl, x0⟩ := text_at H1.out hs
      obtain ⟨tb', to', rfl, x1⟩ := text_at H2.out ht
      have y0 := old_cell x0 HB.out
      have y1 := old_cell x1 HB.out
      have k1 : (k : Int) < (N : Int) := by omega
      have hq := str_neq 9 s t
      have HS := Lib.hid (And.intro hs ht)
      clear hs ht x0 x1
      by_cases he : s = t
      · subst he
        rw [show (s == s) = true by simp] at hq
        have HK2 : Hid (l.take (k + 1) = m.take (k + 1)) := Lib.hid (by rw [List.take_add_one, List.take_add_one, HK.out, HS.out.1, HS.out.2])
        go_wp2
        go_quiet (fail)
        have HB2 := Lib.hid (HB.out.trans (below_drewN wr nq |>.mono HB.out.size))
        go_wp2
        go_roundw
        case rel => exact ⟨k + 1, by omega, by go_num, HK2, HB2⟩
        case measure => simp [intOf]; omega
      · rw [show (s == t) = false by simpa using he] at hq
        have hrf : r = false := by
          rw [← HR.out, decide_eq_false_iff_not]
          rintro rfl
          have := HS.out
          rw [this.1] at this
          exact he (Option.some.inj this.2)
        subst hrf
        clear he
        go_wp2
        go_quiet (fail)
        have HB2 := Lib.hid (HB.out.trans (below_drewN wr nq |>.mono HB.out.size))
        go_wp2
        go_ret
        exact ⟨rfl, HB2.out⟩
    · obtain rfl : k = N := by omega
      have k1 : ¬ (k : Int) < (k : Int) := by omega
      have hrt : r = true := by
        rw [← HR.out, decide_eq_true_eq]
        have := HK.out
        rwa [List.take_of_length_le (by rw [HN.out.1]; exact Nat.le_refl _), List.take_of_length_le (by rw [← HN.out.2]; exact Nat.le_refl _)] at this
      subst hrt
      go_wp2
      go_ret
      exact ⟨rfl, HB.out⟩
/-! ### The chapter's examples -/
def exL : List Pr := [([97], encT (5, 0, 0, 0)), ([98], encT (3, 0, 0, 0)), ([99], encT (5, 0, 0, 0))]
theorem ex_in (v : Int) (h : -9 ≤ v ∧ v ≤ 9) : In4 (v, 0, 0, 0) := by
  intro i
  have h0 : Ky.In v := by unfold Ky.In; omega
  have h1 : Ky.In 0 := by unfold Ky.In; omega
  unfold col Rw.rowF
  split <;> assumption
theorem ex_put : putT [99] (5, 0, 0, 0) 9 (putT [98] (3, 0, 0, 0) 9 (putT [97] (5, 0, 0, 0) 9 [])) = exL := by rfl
theorem ex_idx : idx 0 exL = [(Ky.put 3 [98], []), (Ky.put 5 [97], []), (Ky.put 5 [99], [])] := by
  unfold idx exL
  simp only [List.map_cons, List.map_nil, ent]
  rw [decT_encT (ex_in 5 (by decide)), decT_encT (ex_in 3 (by decide))]
  decide
theorem ex_a : ((hits 0 4 9 exL).take 9).map (fun p => kOf p.1) = [[97], [99]] := by
  unfold hits
  rw [ex_idx]
  decide
theorem ex_b : ((hits 0 0 9 exL).take 2).map (fun p => kOf p.1) = [[98], [97]] := by
  unfold hits
  rw [ex_idx]
  decide
end Tb
end Go.Proofs.YtecnijnmgdfdhaaGreat
