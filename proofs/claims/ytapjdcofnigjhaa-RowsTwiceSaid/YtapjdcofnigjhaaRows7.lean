/- The document's Changes; pointer. -/
import Derived.Test.YtapjdcofnigjhaaRows5
import Derived.Test.YtapjdcofnigjhaaRows6
namespace Go.Proofs.Ytapjdcofnigjhaa
open Go.RowKit

def optP (is : Bool) (b o : Nat) : Option (Nat × Nat) := if is then some (b, o) else none
def optF (is : Bool) (f : Nat → Int) : Option (Nat → Int) := if is then some f else none
theorem PtrAt.opt {w : World} {b o : Nat} {f : Nat → Int} (is : Bool) (h : RowAt w b o f) : PtrAt w (optP is b o) (optF is f) := by
  cases is
  · trivial
  · exact h
theorem pointer_any (b o : Nat) (is : Bool) (w : World) :
    Calls Try.prog 20 #[.pointer (some ⟨b, o, none⟩), .bool is] w fun e w' => e = .returned (ptrV (optP is b o)) ∧ w = w' := by
  cases is
  · have h : ptrV (optP false b o) = .pointer none := rfl
    rw [h]
    go_enter Try.func20, Try.ntmps20
    go_wp2
    go_ret
    exact ⟨rfl, rfl⟩
  · have h : ptrV (optP true b o) = .pointer (some ⟨b, o, none⟩) := rfl
    rw [h]
    go_enter Try.func20, Try.ntmps20
    go_wp2
    go_ret
    exact ⟨rfl, rfl⟩
/-- The document's changes, as cells. -/
def rchV (L : List Chg) : List Value := L.flatMap fun x => [.int .i64 (x.1 : Int), .int .i64 x.2.1, .bool x.2.2]
theorem rchV_append (L M : List Chg) : rchV (L ++ M) = rchV L ++ rchV M := by simp [rchV]
theorem rchV_one (L : List Chg) : ∀ u ∈ rchV L, u.oneCell' = true := by
  intro u hu
  obtain ⟨e, _, h⟩ := List.mem_flatMap.1 hu
  simp only [List.mem_cons, List.not_mem_nil, or_false] at h
  rcases h with rfl | rfl | rfl <;> rfl
theorem made3 (w : World) (i : Nat) (v : Int) (b : Bool) (t : TypeId) : Rd (w.alloc (.cells #[.int .i64 (i : Int), .int .i64 v, .bool b] t)) 3 (some ⟨w.heap.size, 0, none⟩) 1 1 (rchV [(i, v, b)]) :=
  Rd.made w (rchV [(i, v, b)]) t 3 1 rfl (by decide) (rchV_one _) (0, 0)
theorem rch_at {w : World} {a : Option Addr} {n c : Nat} {L : List Chg} (h : Rd w 3 a n c (rchV L)) {j : Nat} {x : Chg} (hj : L[j]? = some x) :
    ∃ b o, a = some ⟨b, o, none⟩ ∧ w.cell? ⟨b, o + j * 3, none⟩ = some (.int .i64 (x.1 : Int)) ∧ w.cell? ⟨b, o + j * 3 + 1, none⟩ = some (.int .i64 x.2.1) ∧ w.cell? ⟨b, o + j * 3 + 2, none⟩ = some (.bool x.2.2) := by
  have get : ∀ (L : List Chg) (j : Nat), L[j]? = some x → (rchV L)[j * 3]? = some (.int .i64 (x.1 : Int)) ∧ (rchV L)[j * 3 + 1]? = some (.int .i64 x.2.1) ∧ (rchV L)[j * 3 + 2]? = some (.bool x.2.2) := by
    intro L
    induction L with
    | nil => intro j h; simp at h
    | cons y L ih =>
      intro j h
      have e : rchV (y :: L) = .int .i64 (y.1 : Int) :: .int .i64 y.2.1 :: .bool y.2.2 :: rchV L := rfl
      match j, h with
      | 0, h => simp at h; subst h; rw [e]; simp
      | j + 1, h =>
        have h1 := ih j (by simpa using h)
        rw [e, show (j + 1) * 3 = j * 3 + 1 + 1 + 1 by omega, show j * 3 + 1 + 1 + 1 + 1 = (j * 3 + 1) + 1 + 1 + 1 by omega, show j * 3 + 1 + 1 + 1 + 2 = (j * 3 + 2) + 1 + 1 + 1 by omega]
        simp only [List.getElem?_cons_succ]
        exact h1
  obtain ⟨g0, g1, g2⟩ := get L j hj
  obtain ⟨b, o, rfl, hc⟩ := h.addr (by intro h0; rw [h0] at g0; simp at g0)
  exact ⟨b, o, rfl, hc _ _ g0, hc _ _ g1, hc _ _ g2⟩
theorem Try.infoRch : (Try.prog.info? 44).map (fun i => (i.zero, i.size, i.bytes)) = some (some (.agg #[.int .i64 0, .int .i64 0, .bool false]), 3, 24) := by kernel_rfl
def GivesR (w : World) (f g : Option (Nat → Int)) (e : Ending) (w' : World) : Prop := ∃ a c, e = .returned (.slice a (chgs 4 f g).length c) ∧ Rd w' 3 a (chgs 4 f g).length c (rchV (chgs 4 f g)) ∧ Below w.heap.size w w'

set_option maxHeartbeats 2000000 in
theorem refCh_ff (a0 a1 a2 a3 b0 b1 b2 b3 : Int) (w : World) :
    Calls Try.prog 21 #[rowV a0 a1 a2 a3, .bool false, rowV b0 b1 b2 b3, .bool false] w (GivesR w (none) (none)) := by
  obtain ⟨i0, hi, hz0, hz1, hz2⟩ := info_parts Try.infoRch
  have hA := al1 w (.cells #[.int .i64 a0, .int .i64 a1, .int .i64 a2, .int .i64 a3] 23)
  have hA2 := al1 (w.alloc (.cells #[.int .i64 a0, .int .i64 a1, .int .i64 a2, .int .i64 a3] 23)) (.cells #[.int .i64 b0, .int .i64 b1, .int .i64 b2, .int .i64 b3] 23)
  have h1 := (RowAt.made w a0 a1 a2 a3 23).later hA2
  have h2 : RowAt ((w.alloc (.cells #[.int .i64 a0, .int .i64 a1, .int .i64 a2, .int .i64 a3] 23)).alloc (.cells #[.int .i64 b0, .int .i64 b1, .int .i64 b2, .int .i64 b3] 23)) (w.heap.size + 1) 0 (rowF b0 b1 b2 b3) := by
    have := RowAt.made (w.alloc (.cells #[.int .i64 a0, .int .i64 a1, .int .i64 a2, .int .i64 a3] 23)) b0 b1 b2 b3 23
    simpa using this
  have H0 := Lib.hid (And.intro (hA.trans (hA2.mono hA.size)) (And.intro h1 h2))
  clear hA hA2 h1 h2
  generalize rowF a0 a1 a2 a3 = f at *
  generalize rowF b0 b1 b2 b3 = g at *
  go_enter Try.func21, Try.ntmps21
  go_wp2
  generalize (w.alloc (.cells #[.int .i64 a0, .int .i64 a1, .int .i64 a2, .int .i64 a3] 23)).alloc (.cells #[.int .i64 b0, .int .i64 b1, .int .i64 b2, .int .i64 b3] 23) = W at *
  go_loopw [9, 10] (fun s i wr => ∃ (n : Nat) (a : Option Addr) (c : Nat), n ≤ 4 ∧ i = .int .i64 n ∧ s = .slice a (chgs n (none) (none)).length c ∧ Hid (Loc 3 W wr a (chgs n (none) (none)).length c (rchV (chgs n (none) (none))))) (fun _ i _ => 4 - (intOf i).toNat)
  case atStart => exact ⟨0, none, 0, by omega, rfl, rfl, Lib.hid (Loc.start 3 W W (Below.refl _ _))⟩
  case round =>
    obtain ⟨n, a, c, hn, rfl, rfl, HL⟩ := hrel
    by_cases hlt : n < 4
    · have hi4 : (n : Int) < 4 := by omega
      have hi0 : (0 : Int) ≤ (n : Int) := by omega
      have hl1 := chgs_len n (none) (none)
      have x1 := (H0.out.2.1.later HL.out.low) n hlt
      have x2 := (H0.out.2.2.later HL.out.low) n hlt
      rw [Nat.zero_add] at x1 x2
      have X1 := Lib.hid x1
      have X2 := Lib.hid x2
      have hkeep : keepB n (none) (none) = false := by unfold keepB; rfl
      have HS : Hid (chgs (n + 1) (none) (none) = chgs n (none) (none) ++ chgCol n (none) (none)) := Lib.hid (by rw [chgs_succ, chgAt_no hkeep])
      clear hkeep
      go_wp2
      go_quiet (fail)
      have HD := Lib.hid (HL.out.later (w' := wr.drewN nq) ⟨rfl, rfl, rfl, Nat.le_refl _, fun _ _ => rfl⟩)
      go_wp2
      go_roundw
      case rel =>
        have h3 := HD.out
        have hs := HS.out
        have hcol : chgCol n (none) (none) = [] := rfl
        rw [hcol] at hs
        rw [List.append_nil] at hs
        rw [← hs] at h3
        have hlen : (chgs (n + 1) (none) (none)).length = (chgs n (none) (none)).length := by rw [hs]
        exact ⟨n + 1, a, c, by omega, by go_num, by rw [hlen], Lib.hid h3⟩
      case measure => simp [intOf]; omega
    · obtain rfl : n = 4 := by omega
      go_wp2
      go_ret
      exact ⟨a, c, rfl, HL.out.rd, H0.out.1.trans (HL.out.low.mono H0.out.1.size)⟩

set_option maxHeartbeats 2000000 in
theorem refCh_ft (a0 a1 a2 a3 b0 b1 b2 b3 : Int) (w : World) :
    Calls Try.prog 21 #[rowV a0 a1 a2 a3, .bool false, rowV b0 b1 b2 b3, .bool true] w (GivesR w (none) (some (rowF b0 b1 b2 b3))) := by
  obtain ⟨i0, hi, hz0, hz1, hz2⟩ := info_parts Try.infoRch
  have hA := al1 w (.cells #[.int .i64 a0, .int .i64 a1, .int .i64 a2, .int .i64 a3] 23)
  have hA2 := al1 (w.alloc (.cells #[.int .i64 a0, .int .i64 a1, .int .i64 a2, .int .i64 a3] 23)) (.cells #[.int .i64 b0, .int .i64 b1, .int .i64 b2, .int .i64 b3] 23)
  have h1 := (RowAt.made w a0 a1 a2 a3 23).later hA2
  have h2 : RowAt ((w.alloc (.cells #[.int .i64 a0, .int .i64 a1, .int .i64 a2, .int .i64 a3] 23)).alloc (.cells #[.int .i64 b0, .int .i64 b1, .int .i64 b2, .int .i64 b3] 23)) (w.heap.size + 1) 0 (rowF b0 b1 b2 b3) := by
    have := RowAt.made (w.alloc (.cells #[.int .i64 a0, .int .i64 a1, .int .i64 a2, .int .i64 a3] 23)) b0 b1 b2 b3 23
    simpa using this
  have H0 := Lib.hid (And.intro (hA.trans (hA2.mono hA.size)) (And.intro h1 h2))
  clear hA hA2 h1 h2
  generalize rowF a0 a1 a2 a3 = f at *
  generalize rowF b0 b1 b2 b3 = g at *
  go_enter Try.func21, Try.ntmps21
  go_wp2
  generalize (w.alloc (.cells #[.int .i64 a0, .int .i64 a1, .int .i64 a2, .int .i64 a3] 23)).alloc (.cells #[.int .i64 b0, .int .i64 b1, .int .i64 b2, .int .i64 b3] 23) = W at *
  go_loopw [9, 10] (fun s i wr => ∃ (n : Nat) (a : Option Addr) (c : Nat), n ≤ 4 ∧ i = .int .i64 n ∧ s = .slice a (chgs n (none) (some (g))).length c ∧ Hid (Loc 3 W wr a (chgs n (none) (some (g))).length c (rchV (chgs n (none) (some (g)))))) (fun _ i _ => 4 - (intOf i).toNat)
  case atStart => exact ⟨0, none, 0, by omega, rfl, rfl, Lib.hid (Loc.start 3 W W (Below.refl _ _))⟩
  case round =>
    obtain ⟨n, a, c, hn, rfl, rfl, HL⟩ := hrel
    by_cases hlt : n < 4
    · have hi4 : (n : Int) < 4 := by omega
      have hi0 : (0 : Int) ≤ (n : Int) := by omega
      have hl1 := chgs_len n (none) (some (g))
      have x1 := (H0.out.2.1.later HL.out.low) n hlt
      have x2 := (H0.out.2.2.later HL.out.low) n hlt
      rw [Nat.zero_add] at x1 x2
      have X1 := Lib.hid x1
      have X2 := Lib.hid x2
      have hkeep : keepB n (none) (some (g)) = false := by unfold keepB; rfl
      have HS : Hid (chgs (n + 1) (none) (some (g)) = chgs n (none) (some (g)) ++ chgCol n (none) (some (g))) := Lib.hid (by rw [chgs_succ, chgAt_no hkeep])
      clear hkeep
      go_wp2
      go_quiet (fail)
      have HD := Lib.hid (HL.out.later (w' := wr.drewN nq) ⟨rfl, rfl, rfl, Nat.le_refl _, fun _ _ => rfl⟩)
      go_wp2_with (first
        | (at_builtin; refine wpList_app_loc rfl (.tmp 38) (.tmp 44) 37 rfl 44 i0 _ 3 24 Try.underlying37 hi hz0 hz1 hz2 rfl (by decide) W a (chgs n (none) (some (g))).length c (rchV (chgs n (none) (some (g)))) rfl (HD.out.later (al1 _ _)) (some ⟨wr.heap.size, 0, none⟩) 1 1 (rchV [(n, g n, true)]) rfl (made3 (wr.drewN nq) n (g n) true _) ((chgs n (none) (some (g))).length + 1) (rchV (chgs n (none) (some (g)) ++ [(n, g n, true)])) rfl (rchV_append _ _).symm (by unfold maxLen; omega) (by omega) ?_; intro a3 c3 w3 ho; have H3 := Lib.hid ho; clear ho))
      go_roundw
      case rel =>
        have h3 := H3.out
        have hs := HS.out
        have hcol : chgCol n (none) (some (g)) = [(n, g n, true)] := rfl
        rw [hcol] at hs
        rw [← hs] at h3
        have hlen : (chgs (n + 1) (none) (some (g))).length = (chgs n (none) (some (g))).length + 1 := by rw [hs, List.length_append]; rfl
        rw [← hlen] at h3
        exact ⟨n + 1, a3, c3, by omega, by go_num, by rw [hlen], Lib.hid h3⟩
      case measure => simp [intOf]; omega
    · obtain rfl : n = 4 := by omega
      go_wp2
      go_ret
      exact ⟨a, c, rfl, HL.out.rd, H0.out.1.trans (HL.out.low.mono H0.out.1.size)⟩

set_option maxHeartbeats 2000000 in
theorem refCh_tf (a0 a1 a2 a3 b0 b1 b2 b3 : Int) (w : World) :
    Calls Try.prog 21 #[rowV a0 a1 a2 a3, .bool true, rowV b0 b1 b2 b3, .bool false] w (GivesR w (some (rowF a0 a1 a2 a3)) (none)) := by
  obtain ⟨i0, hi, hz0, hz1, hz2⟩ := info_parts Try.infoRch
  have hA := al1 w (.cells #[.int .i64 a0, .int .i64 a1, .int .i64 a2, .int .i64 a3] 23)
  have hA2 := al1 (w.alloc (.cells #[.int .i64 a0, .int .i64 a1, .int .i64 a2, .int .i64 a3] 23)) (.cells #[.int .i64 b0, .int .i64 b1, .int .i64 b2, .int .i64 b3] 23)
  have h1 := (RowAt.made w a0 a1 a2 a3 23).later hA2
  have h2 : RowAt ((w.alloc (.cells #[.int .i64 a0, .int .i64 a1, .int .i64 a2, .int .i64 a3] 23)).alloc (.cells #[.int .i64 b0, .int .i64 b1, .int .i64 b2, .int .i64 b3] 23)) (w.heap.size + 1) 0 (rowF b0 b1 b2 b3) := by
    have := RowAt.made (w.alloc (.cells #[.int .i64 a0, .int .i64 a1, .int .i64 a2, .int .i64 a3] 23)) b0 b1 b2 b3 23
    simpa using this
  have H0 := Lib.hid (And.intro (hA.trans (hA2.mono hA.size)) (And.intro h1 h2))
  clear hA hA2 h1 h2
  generalize rowF a0 a1 a2 a3 = f at *
  generalize rowF b0 b1 b2 b3 = g at *
  go_enter Try.func21, Try.ntmps21
  go_wp2
  generalize (w.alloc (.cells #[.int .i64 a0, .int .i64 a1, .int .i64 a2, .int .i64 a3] 23)).alloc (.cells #[.int .i64 b0, .int .i64 b1, .int .i64 b2, .int .i64 b3] 23) = W at *
  go_loopw [9, 10] (fun s i wr => ∃ (n : Nat) (a : Option Addr) (c : Nat), n ≤ 4 ∧ i = .int .i64 n ∧ s = .slice a (chgs n (some (f)) (none)).length c ∧ Hid (Loc 3 W wr a (chgs n (some (f)) (none)).length c (rchV (chgs n (some (f)) (none))))) (fun _ i _ => 4 - (intOf i).toNat)
  case atStart => exact ⟨0, none, 0, by omega, rfl, rfl, Lib.hid (Loc.start 3 W W (Below.refl _ _))⟩
  case round =>
    obtain ⟨n, a, c, hn, rfl, rfl, HL⟩ := hrel
    by_cases hlt : n < 4
    · have hi4 : (n : Int) < 4 := by omega
      have hi0 : (0 : Int) ≤ (n : Int) := by omega
      have hl1 := chgs_len n (some (f)) (none)
      have x1 := (H0.out.2.1.later HL.out.low) n hlt
      have x2 := (H0.out.2.2.later HL.out.low) n hlt
      rw [Nat.zero_add] at x1 x2
      have X1 := Lib.hid x1
      have X2 := Lib.hid x2
      have hkeep : keepB n (some (f)) (none) = false := by unfold keepB; rfl
      have HS : Hid (chgs (n + 1) (some (f)) (none) = chgs n (some (f)) (none) ++ chgCol n (some (f)) (none)) := Lib.hid (by rw [chgs_succ, chgAt_no hkeep])
      clear hkeep
      go_wp2
      go_quiet (fail)
      have HD := Lib.hid (HL.out.later (w' := wr.drewN nq) ⟨rfl, rfl, rfl, Nat.le_refl _, fun _ _ => rfl⟩)
      go_wp2_with (first
        | (at_builtin; refine wpList_app_loc rfl (.tmp 29) (.tmp 35) 37 rfl 44 i0 _ 3 24 Try.underlying37 hi hz0 hz1 hz2 rfl (by decide) W a (chgs n (some (f)) (none)).length c (rchV (chgs n (some (f)) (none))) rfl (HD.out.later (al1 _ _)) (some ⟨wr.heap.size, 0, none⟩) 1 1 (rchV [(n, f n, false)]) rfl (made3 (wr.drewN nq) n (f n) false _) ((chgs n (some (f)) (none)).length + 1) (rchV (chgs n (some (f)) (none) ++ [(n, f n, false)])) rfl (rchV_append _ _).symm (by unfold maxLen; omega) (by omega) ?_; intro a2 c2 w2 ho; have H2 := Lib.hid ho; clear ho x1 x2; skip))
      go_roundw
      case rel =>
        have h3 := H2.out
        have hs := HS.out
        have hcol : chgCol n (some (f)) (none) = [(n, f n, false)] := rfl
        rw [hcol] at hs
        rw [← hs] at h3
        have hlen : (chgs (n + 1) (some (f)) (none)).length = (chgs n (some (f)) (none)).length + 1 := by rw [hs, List.length_append]; rfl
        rw [← hlen] at h3
        exact ⟨n + 1, a2, c2, by omega, by go_num, by rw [hlen], Lib.hid h3⟩
      case measure => simp [intOf]; omega
    · obtain rfl : n = 4 := by omega
      go_wp2
      go_ret
      exact ⟨a, c, rfl, HL.out.rd, H0.out.1.trans (HL.out.low.mono H0.out.1.size)⟩

set_option maxHeartbeats 2000000 in
theorem refCh_tt (a0 a1 a2 a3 b0 b1 b2 b3 : Int) (w : World) :
    Calls Try.prog 21 #[rowV a0 a1 a2 a3, .bool true, rowV b0 b1 b2 b3, .bool true] w (GivesR w (some (rowF a0 a1 a2 a3)) (some (rowF b0 b1 b2 b3))) := by
  obtain ⟨i0, hi, hz0, hz1, hz2⟩ := info_parts Try.infoRch
  have hA := al1 w (.cells #[.int .i64 a0, .int .i64 a1, .int .i64 a2, .int .i64 a3] 23)
  have hA2 := al1 (w.alloc (.cells #[.int .i64 a0, .int .i64 a1, .int .i64 a2, .int .i64 a3] 23)) (.cells #[.int .i64 b0, .int .i64 b1, .int .i64 b2, .int .i64 b3] 23)
  have h1 := (RowAt.made w a0 a1 a2 a3 23).later hA2
  have h2 : RowAt ((w.alloc (.cells #[.int .i64 a0, .int .i64 a1, .int .i64 a2, .int .i64 a3] 23)).alloc (.cells #[.int .i64 b0, .int .i64 b1, .int .i64 b2, .int .i64 b3] 23)) (w.heap.size + 1) 0 (rowF b0 b1 b2 b3) := by
    have := RowAt.made (w.alloc (.cells #[.int .i64 a0, .int .i64 a1, .int .i64 a2, .int .i64 a3] 23)) b0 b1 b2 b3 23
    simpa using this
  have H0 := Lib.hid (And.intro (hA.trans (hA2.mono hA.size)) (And.intro h1 h2))
  clear hA hA2 h1 h2
  generalize rowF a0 a1 a2 a3 = f at *
  generalize rowF b0 b1 b2 b3 = g at *
  go_enter Try.func21, Try.ntmps21
  go_wp2
  generalize (w.alloc (.cells #[.int .i64 a0, .int .i64 a1, .int .i64 a2, .int .i64 a3] 23)).alloc (.cells #[.int .i64 b0, .int .i64 b1, .int .i64 b2, .int .i64 b3] 23) = W at *
  go_loopw [9, 10] (fun s i wr => ∃ (n : Nat) (a : Option Addr) (c : Nat), n ≤ 4 ∧ i = .int .i64 n ∧ s = .slice a (chgs n (some (f)) (some (g))).length c ∧ Hid (Loc 3 W wr a (chgs n (some (f)) (some (g))).length c (rchV (chgs n (some (f)) (some (g)))))) (fun _ i _ => 4 - (intOf i).toNat)
  case atStart => exact ⟨0, none, 0, by omega, rfl, rfl, Lib.hid (Loc.start 3 W W (Below.refl _ _))⟩
  case round =>
    obtain ⟨n, a, c, hn, rfl, rfl, HL⟩ := hrel
    by_cases hlt : n < 4
    · have hi4 : (n : Int) < 4 := by omega
      have hi0 : (0 : Int) ≤ (n : Int) := by omega
      have hl1 := chgs_len n (some (f)) (some (g))
      have x1 := (H0.out.2.1.later HL.out.low) n hlt
      have x2 := (H0.out.2.2.later HL.out.low) n hlt
      rw [Nat.zero_add] at x1 x2
      have X1 := Lib.hid x1
      have X2 := Lib.hid x2
      by_cases hfg : f n = g n
      · have HS : Hid (chgs (n + 1) (some f) (some g) = chgs n (some f) (some g)) := Lib.hid (by rw [chgs_succ, chgAt_yes (by unfold keepB; simp [hfg]), List.append_nil])
        have hb : (f n == g n) = true := by simp [hfg]
        clear hfg
        go_wp2
        go_quiet (fail)
        go_wp2
        go_roundw
        case rel => exact ⟨n + 1, a, c, by omega, by go_num, by rw [HS.out], Lib.hid (by rw [HS.out]; exact HL.out.later ⟨rfl, rfl, rfl, Nat.le_refl _, fun _ _ => rfl⟩)⟩
        case measure => simp [intOf]; omega
      · have hb : (f n == g n) = false := by simp [hfg]
        have hkeep : keepB n (some (f)) (some (g)) = false := by unfold keepB; exact hb
        have HS : Hid (chgs (n + 1) (some (f)) (some (g)) = chgs n (some (f)) (some (g)) ++ chgCol n (some (f)) (some (g))) := Lib.hid (by rw [chgs_succ, chgAt_no hkeep])
        clear hkeep
        go_wp2
        go_quiet (fail)
        have HD := Lib.hid (HL.out.later (w' := wr.drewN nq) ⟨rfl, rfl, rfl, Nat.le_refl _, fun _ _ => rfl⟩)
        go_wp2_with (first
          | (at_builtin; refine wpList_app_loc rfl (.tmp 29) (.tmp 35) 37 rfl 44 i0 _ 3 24 Try.underlying37 hi hz0 hz1 hz2 rfl (by decide) W a (chgs n (some (f)) (some (g))).length c (rchV (chgs n (some (f)) (some (g)))) rfl (HD.out.later (al1 _ _)) (some ⟨wr.heap.size, 0, none⟩) 1 1 (rchV [(n, f n, false)]) rfl (made3 (wr.drewN nq) n (f n) false _) ((chgs n (some (f)) (some (g))).length + 1) (rchV (chgs n (some (f)) (some (g)) ++ [(n, f n, false)])) rfl (rchV_append _ _).symm (by unfold maxLen; omega) (by omega) ?_; intro a2 c2 w2 ho; have H2 := Lib.hid ho; clear ho x1 x2; have x2 := (H0.out.2.2.later H2.out.low) n hlt; rw [Nat.zero_add] at x2)
          | (at_builtin; refine wpList_app_loc rfl (.tmp 38) (.tmp 44) 37 rfl 44 i0 _ 3 24 Try.underlying37 hi hz0 hz1 hz2 rfl (by decide) W a2 ((chgs n (some (f)) (some (g))).length + 1) c2 (rchV (chgs n (some (f)) (some (g)) ++ [(n, f n, false)])) rfl (H2.out.later (al1 _ _)) (some ⟨w2.heap.size, 0, none⟩) 1 1 (rchV [(n, g n, true)]) rfl (made3 w2 n (g n) true _) ((chgs n (some (f)) (some (g))).length + 1 + 1) (rchV ((chgs n (some (f)) (some (g)) ++ [(n, f n, false)]) ++ [(n, g n, true)])) rfl (rchV_append _ _).symm (by unfold maxLen; omega) (by omega) ?_; intro a3 c3 w3 ho; have H3 := Lib.hid ho; clear ho))
        go_roundw
        case rel =>
          have h3 := H3.out
          rw [List.append_assoc] at h3
          have hs := HS.out
          have hcol : chgCol n (some (f)) (some (g)) = [(n, f n, false), (n, g n, true)] := rfl
          rw [hcol] at hs
          rw [show [(n, f n, false)] ++ [(n, g n, true)] = [(n, f n, false), (n, g n, true)] from rfl] at h3
          rw [← hs] at h3
          have hlen : (chgs (n + 1) (some (f)) (some (g))).length = (chgs n (some (f)) (some (g))).length + 1 + 1 := by rw [hs, List.length_append]; rfl
          rw [← hlen] at h3
          exact ⟨n + 1, a3, c3, by omega, by go_num, by rw [hlen], Lib.hid h3⟩
        case measure => simp [intOf]; omega
    · obtain rfl : n = 4 := by omega
      go_wp2
      go_ret
      exact ⟨a, c, rfl, HL.out.rd, H0.out.1.trans (HL.out.low.mono H0.out.1.size)⟩

theorem refCh_any (a0 a1 a2 a3 : Int) (had : Bool) (b0 b1 b2 b3 : Int) (has : Bool) (w : World) :
    Calls Try.prog 21 #[rowV a0 a1 a2 a3, .bool had, rowV b0 b1 b2 b3, .bool has] w (GivesR w (optF had (rowF a0 a1 a2 a3)) (optF has (rowF b0 b1 b2 b3))) := by
  cases had <;> cases has
  · exact refCh_ff a0 a1 a2 a3 b0 b1 b2 b3 w
  · exact refCh_ft a0 a1 a2 a3 b0 b1 b2 b3 w
  · exact refCh_tf a0 a1 a2 a3 b0 b1 b2 b3 w
  · exact refCh_tt a0 a1 a2 a3 b0 b1 b2 b3 w
end Go.Proofs.Ytapjdcofnigjhaa
