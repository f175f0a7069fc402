/- Joined: Law29. -/
import Derived.Test.YtbempjkkohjnbaaYLaw28
import Derived.Test.YtbempjkkohjnbaaYLaw22
import Derived.Test.YtbempjkkohjnbaaYRes4
/- CursorStays: the document's Range, as memory of its own. -/
namespace Go.Proofs.Ytbempjkkohjnbaa
open Go.RowKit Tr
open Ky (less)
theorem loc_from {size n c : Nat} {a : Option Addr} {xs : List Value} {w W V : World} (hb : Below w.heap.size w W) (h : Loc size W V a n c xs) : Loc size w V a n c xs := by
  obtain ⟨F, h1, h2, h3, h4⟩ := h
  exact ⟨F, h1, h2, fun k x hx => Nat.le_trans hb.size (h3 k x hx), hb.trans (h4.mono hb.size)⟩
set_option maxHeartbeats 4000000 in
set_option maxRecDepth 100000 in
theorem range_loc (r : Nat) (F : Foot) (la : Option Addr) (lc : Nat) (L : List Pr) (s t : Str) (most : Nat) (hn : L.length ≤ 100000) (w : World) (h : Lst w r F la lc L) :
    Calls Try.prog 37 #[ptrV r, .agg #[.string ⟨s.toArray⟩, .string ⟨t.toArray⟩], .int .i64 most] w fun e V => ∃ a c, e = .returned (.slice a ((Tr.rng s t L).take most).length c) ∧ Loc 2 w V a ((Tr.rng s t L).take most).length c (pairsV ((Tr.rng s t L).take most)) := by
  obtain ⟨i0, hi, hz0, hz1, hz2⟩ := info_parts Try.infoPairD
  obtain ⟨W, hW⟩ : ∃ W, w.alloc (.cells #[.string ⟨s.toArray⟩, .string ⟨t.toArray⟩] 67) = W := ⟨_, rfl⟩
  have hb0 : Below w.heap.size w W := by rw [← hW]; exact al1 w _
  have hsW : W.heap.size = w.heap.size + 1 := by rw [← hW]; simp
  have HX : Hid (∀ V, Below W.heap.size W V → V.cell? ⟨w.heap.size, 0, none⟩ = some (.string ⟨s.toArray⟩) ∧ V.cell? ⟨w.heap.size, 1, none⟩ = some (.string ⟨t.toArray⟩) ∧ Lst V r F la lc L ∧ Below w.heap.size w V) := Lib.hid (fun V hb => by
    have hbw := hb0.trans (hb.mono hb0.size)
    exact ⟨old_cell (by rw [← hW]; simp) hb, old_cell (by rw [← hW]; simp) hb, h.later hbw, hbw⟩)
  obtain ⟨N, hN⟩ : ∃ N, L.length = N := ⟨_, rfl⟩
  have HN := Lib.hid hN
  rw [hN] at hn
  obtain ⟨TT, hTT⟩ : ∃ TT, (Tr.rng s t L).take most = TT := ⟨_, rfl⟩
  rw [hTT]
  have HTT := Lib.hid hTT
  have HLo : Hid (∀ V a n c xs, Loc 2 W V a n c xs → Loc 2 w V a n c xs) := Lib.hid (fun V a n c xs h => loc_from hb0 h)
  clear h hb0 hsW hN hTT
  go_enter Try.func37, Try.ntmps37
  go_wp2
  clear hW
  go_loopw [7, 8] (fun o i wr => ∃ (j n : Nat) (a : Option Addr) (c : Nat), j ≤ N ∧ n ≤ most ∧ i = .int .i64 j ∧ o = .slice a n c ∧ Hid ((Tr.rng s t (L.take j)).length = n ∧ Loc 2 W wr a n c (pairsV (Tr.rng s t (L.take j))))) (fun _ i _ => N - (intOf i).toNat)
  case atStart => exact ⟨0, 0, none, 0, by omega, by omega, rfl, rfl, Lib.hid ⟨rfl, Loc.start 2 W W (Below.refl _ _)⟩⟩
  case round =>
    obtain ⟨j, n, a, c, hj, hnm, rfl, rfl, HJ⟩ := hrel
    obtain ⟨x0, x1, hl, _⟩ := HX.out wr HJ.out.2.low
    have z0 := hl.c0
    rw [HN.out] at z0
    have hnj : n ≤ j := by rw [← HJ.out.1]; have := rng_len s t (L.take j); rw [List.length_take] at this; omega
    by_cases hlt : j < N
    · have g1 : (j : Int) < (N : Int) := by omega
      have hd1 : decide ((j : Int) < (N : Int)) = true := decide_eq_true g1
      have g0 : (0 : Int) ≤ (j : Int) := by omega
      by_cases hmm : n < most
      · have g2 : (n : Int) < (most : Int) := by omega
        obtain ⟨p, hp⟩ : ∃ p, L[j]? = some p := ⟨_, List.getElem?_eq_getElem (by rw [HN.out]; exact hlt)⟩
        obtain ⟨pb, po, rfl, y1, y2⟩ := hl.pair hp
        have HI := Lib.hid (fun W => in_any p s t W)
        have HS := Lib.hid (rng_take_succ (s := s) (t := t) hp)
        clear hl hp
        go_wp2
        refine wp_region_still_tail 12 (by kernel_rfl) (by kernel_rfl) ?_
        simp only [List.take_succ_cons, List.take_zero, List.drop_succ_cons, List.drop_zero]
        repeat ((with_reducible refine wpStill_step (fun K hK => ?_)); go_simp; (with_reducible refine hK _ ?_); clear hK K)
        with_reducible refine wpStill_nil ?_
        cases hr : inR s t p with
        | true =>
          rw [hr] at HI HS
          have HL2 := Lib.hid (fun (V : World) (hb : Below wr.heap.size wr V) => HJ.out.2.later hb)
          go_wp2_with (first
            | (go_at_call 38; refine (HI.out _).mono ?_; rintro e V ⟨rfl, rfl⟩)
            | (at_builtin; refine wpList_app_loc rfl (.tmp 37) (.tmp 45) 31 rfl 38 i0 _ 2 32 Try.underlying31 hi hz0 hz1 hz2 rfl (by decide) W a n c (pairsV (Tr.rng s t (L.take j))) rfl (HL2.out _ (al1 wr _).drew) (some ⟨wr.heap.size, 0, none⟩) 1 1 [.string ⟨p.1.toArray⟩, .string ⟨p.2.toArray⟩] rfl ((Rd.twoNew wr _ _ _ rfl rfl).later ((Below.refl _ _).drew)) (n + 1) (pairsV (Tr.rng s t (L.take j) ++ [p])) rfl (by simp [pairsV]) (by unfold maxLen; omega) (by omega) ?_; intro a' c' w1 ho; have H1 := Lib.hid ho; clear ho))
          go_roundw
          case rel => exact ⟨j + 1, n + 1, a', c', by omega, by omega, by go_num, rfl, Lib.hid ⟨by rw [HS.out]; simp [HJ.out.1], by rw [HS.out]; exact H1.out⟩⟩
          case measure => simp [intOf]; omega
        | false =>
          rw [hr] at HI HS
          go_wp2_with (go_at_call 38; refine (HI.out _).mono ?_; rintro e V ⟨rfl, rfl⟩)
          go_roundw
          case rel => exact ⟨j + 1, n, a, c, by omega, by omega, by go_num, rfl, Lib.hid ⟨by rw [HS.out]; simp [HJ.out.1], by rw [HS.out]; simpa using HJ.out.2.later ((Below.refl _ wr).drew)⟩⟩
          case measure => simp [intOf]; omega
      · have g2 : ¬ (n : Int) < (most : Int) := by omega
        clear hl
        go_wp2
        go_ret
        have e : (Tr.rng s t L).take most = Tr.rng s t (L.take j) := by
          obtain ⟨R, hR⟩ := rng_take_le s t L j
          have := HJ.out.1
          rw [hR, show most = (Tr.rng s t (L.take j)).length by omega, List.take_left']
          rfl
        rw [← HTT.out, e, HJ.out.1]
        exact ⟨a, c, rfl, HLo.out _ _ _ _ _ HJ.out.2⟩
    · obtain rfl : j = N := by omega
      have hd1 : decide ((j : Int) < (j : Int)) = false := decide_eq_false (by omega)
      clear hl
      go_wp2
      go_ret
      have e : (Tr.rng s t L).take most = Tr.rng s t (L.take j) := by
        rw [← HN.out, List.take_length]
        refine List.take_of_length_le ?_
        have := HJ.out.1
        rw [← HN.out, List.take_length] at this
        omega
      rw [← HTT.out, e, HJ.out.1]
      exact ⟨a, c, rfl, HLo.out _ _ _ _ _ HJ.out.2⟩
theorem own_range {B r : Nat} {w0 w : World} {X : List Rs} {L : List Pr} (s t : Str) (most : Nat) (h : Own B w0 (LstR r L :: X) w) (hn : L.length ≤ most) (hn2 : L.length ≤ 100000) :
    Calls Try.prog 37 #[ptrV r, .agg #[.string ⟨s.toArray⟩, .string ⟨t.toArray⟩], .int .i64 most] w fun e V => ∃ (a : Option Addr) (c : Nat), e = .returned (.slice a (Tr.rng s t L).length c) ∧ Own B w0 (SlR 2 a (Tr.rng s t L).length c (pairsV (Tr.rng s t L)) :: LstR r L :: X) V := by
  obtain ⟨F1, ⟨F, a, c, hl, rfl⟩, _, _⟩ := h.open1
  have h1 := range_loc r F a c L s t most hn2 w hl
  have e : (Tr.rng s t L).take most = Tr.rng s t L := List.take_of_length_le (Nat.le_trans (rng_len s t _) hn)
  rw [e] at h1
  refine h1.mono ?_
  rintro e V ⟨a, c, rfl, hL⟩
  exact ⟨a, c, rfl, own_loc h hL⟩
end Go.Proofs.Ytbempjkkohjnbaa
