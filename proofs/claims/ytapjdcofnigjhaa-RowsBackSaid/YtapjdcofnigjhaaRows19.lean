/- The walk of RowsBack. -/
import Derived.Test.YtapjdcofnigjhaaRows18
import Derived.Test.YtapjdcofnigjhaaRows6
namespace Go.Proofs.Ytapjdcofnigjhaa
open Go.RowKit
theorem rowsDecode_N (a1 : Option Addr) (c1 : Nat) (B : List UInt8) (N : Nat) (hN : B.length = N) (hl : N ≤ 1000000) (y0 y1 y2 y3 : Int) (l : List Int) (hr : Fd.row B = some l) (hy : l.getD 0 0 = y0 ∧ l.getD 1 0 = y1 ∧ l.getD 2 0 = y2 ∧ l.getD 3 0 = y3) (w : World) (h : RdB w a1 c1 B) :
    Calls Try.prog 37 #[.slice a1 N c1] w fun e w' => e = .returned (.tuple #[rowV y0 y1 y2 y3, .int .i64 0]) ∧ Below w.heap.size w w' := by
  subst hN
  obtain ⟨rfl, rfl, rfl, rfl⟩ := hy
  have h2 := rowsDecode a1 c1 B hl w h
  rw [hr] at h2
  exact h2
theorem encode_N (a0 a1 a2 a3 : Int) (hf : InR (rowF a0 a1 a2 a3)) (B : List UInt8) (N : Nat) (hB : encR (rowF a0 a1 a2 a3) 4 = B) (hN : B.length = N) (w : World) :
    Calls Try.prog 16 #[rowV a0 a1 a2 a3] w fun e w' => ∃ a c, e = .returned (.slice a N c) ∧ RdB w' a c B ∧ Below w.heap.size w w' := by
  subst hN hB
  exact encode_any a0 a1 a2 a3 hf w
set_option maxRecDepth 100000 in
set_option maxHeartbeats 4000000 in
theorem rowsBack_walk (a0 a1 a2 a3 : Int) (hf : InR (rowF a0 a1 a2 a3)) (b1 : Option Addr) (c1 : Nat) (B : List UInt8) (w : World) (h : RdB w b1 c1 B) :
    Calls Try.prog 14 #[rowV a0 a1 a2 a3, .slice b1 B.length c1] w (Yes w) := by
  have hBm : (B.length : Int) ≤ 9223372036854775807 := by have := h.le; unfold maxLen at this; omega
  by_cases hB : 100 < B.length
  · have hB' : (100 : Int) < (B.length : Int) := by omega
    clear h hB hf
    go_enter Try.func14, Try.ntmps14
    go_wp2_with (go_at_call 18; refine (awake_any _).mono ?_; rintro e w4 ⟨rfl, hb⟩; have H4 := Lib.hid hb; clear hb)
    go_ret
    exact ⟨rfl, ((Below.refl w.heap.size w).alloc (Nat.le_refl _) _).trans (H4.out.mono (by simp))⟩
  have hB' : (B.length : Int) ≤ 100 := by omega
  have hbl : B.length ≤ 1000000 := by omega
  obtain ⟨E, hE⟩ : ∃ E, encR (rowF a0 a1 a2 a3) 4 = E := ⟨_, rfl⟩
  obtain ⟨N, hN⟩ : ∃ N, E.length = N := ⟨_, rfl⟩
  have hN40 : N ≤ 1000000 := by have := encR_len hf 4; rw [hE, hN] at this; omega
  have H0 := Lib.hid h
  have HE := Lib.hid (fun W => encode_N a0 a1 a2 a3 hf E N hE hN W)
  have HR := Lib.hid (fun p c W h => by
    obtain ⟨l, hl1, hl2⟩ := row_encR hf
    rw [hE] at hl1
    exact rowsDecode_N p c E N hN hN40 a0 a1 a2 a3 l hl1 ⟨hl2 0 (by omega), hl2 1 (by omega), hl2 2 (by omega), hl2 3 (by omega)⟩ W h)
  have hq1 := neqRow a0 a1 a2 a3 a0 a1 a2 a3 true (rb_true _ _ _ _)
  have hgR := guardRow
  have HA := Lib.hid (al1' w (.cells #[.int .i64 a0, .int .i64 a1, .int .i64 a2, .int .i64 a3] 23))
  have HD := Lib.hid (fun W h => rowsDecode b1 c1 B hbl W h)
  have HX : Hid (∀ l, Fd.row B = some l → encR (rowF (l.getD 0 0) (l.getD 1 0) (l.getD 2 0) (l.getD 3 0)) 4 = B ∧ InR (rowF (l.getD 0 0) (l.getD 1 0) (l.getD 2 0) (l.getD 3 0))) := Lib.hid (fun l hr => by
    obtain ⟨e1, e2⟩ := encR_row hr
    refine ⟨?_, rowF_in (e2 0) (e2 1) (e2 2) (e2 3)⟩
    rw [← e1]
    exact encR_same 4 (fun i hi => rowF_at (fun i => l.getD i 0) i hi))
  have HM := Lib.hid (RowAt.made w a0 a1 a2 a3 23)
  have HB2 := Lib.hid (fun (b : Option Addr) (d : Nat) W h1 h2 => bytes_N b d B b1 c1 B B.length rfl W h1 h2)
  rw [show decide (B = B) = true from decide_eq_true rfl] at HB2
  obtain ⟨D, hD⟩ : ∃ D, Fd.row B = D := ⟨_, rfl⟩
  rw [hD] at HD HX
  clear h hB hBm hf hE hN hN40 hD
  cases D with
  | none =>
    have HD2 : Hid (∀ W : World, RdB W b1 c1 B → Calls Try.prog 37 #[.slice b1 B.length c1] W fun e w' => e = .returned (.tuple #[.agg #[.int .i64 0, .int .i64 0, .int .i64 0, .int .i64 0], .int .i64 11]) ∧ Below W.heap.size W w') := HD
    clear HD HX HB2
    have hq2 := eqlRow 0 0 0 0 0 0 0 0 true rfl
    go_enter Try.func14, Try.ntmps14
    go_wp2_with (first
      | (go_at_call 16; (with_reducible refine (HE.out _).mono ?_); rintro e w1 ⟨p1, q1, rfl, hr, hb⟩; have H1 := Lib.hid (And.intro hr (And.intro (HA.out.trans (hb.mono HA.out.size)) (HM.out.later hb))); clear hr hb)
      | (go_at_call 37; (with_reducible refine (HR.out _ _ _ H1.out.1).mono ?_); rintro e w2 ⟨rfl, hb⟩; have H2 := Lib.hid (And.intro (H1.out.2.1.trans (hb.mono H1.out.2.1.size)) (H1.out.2.2.later hb)); obtain ⟨⟨x0, x1⟩, x2, x3⟩ := row_cells H2.out.2; have sz : w.heap.size < w2.heap.size := block_of_cell x0; clear hb)
      | (go_at_call 37; (with_reducible refine (HD2.out _ (RdB.later (RdB.later H0.out H2.out.1) (al1' w2 _))).mono ?_); rintro e w3 ⟨rfl, hb⟩; have H3 := Lib.hid ((H2.out.1.trans ((al1' w2 _).mono H2.out.1.size)).trans (hb.mono (by have := H2.out.1.size; simp; omega))); clear hb)
      | (go_at_call 18; refine (awake_any _).mono ?_; rintro e w4 ⟨rfl, hb⟩; have H4 := Lib.hid hb; clear hb))
    go_ret
    first
      | exact ⟨rfl, H3.out.trans (H4.out.mono H3.out.size)⟩
      | exact ⟨rfl, (H3.out.trans ((al1' w3 _).mono H3.out.size)).trans (H4.out.mono (by have := H3.out.size; simp; omega))⟩
  | some l =>
    have tok1 : True := trivial
    obtain ⟨y0, hy0⟩ : ∃ y, l.getD 0 0 = y := ⟨_, rfl⟩
    obtain ⟨y1, hy1⟩ : ∃ y, l.getD 1 0 = y := ⟨_, rfl⟩
    obtain ⟨y2, hy2⟩ : ∃ y, l.getD 2 0 = y := ⟨_, rfl⟩
    obtain ⟨y3, hy3⟩ : ∃ y, l.getD 3 0 = y := ⟨_, rfl⟩
    have HY : Hid (lRow l = .agg #[.int .i64 y0, .int .i64 y1, .int .i64 y2, .int .i64 y3]) := Lib.hid (by unfold lRow; rw [hy0, hy1, hy2, hy3])
    have HD2 : Hid (∀ W : World, RdB W b1 c1 B → Calls Try.prog 37 #[.slice b1 B.length c1] W fun e w' => e = .returned (.tuple #[.agg #[.int .i64 y0, .int .i64 y1, .int .i64 y2, .int .i64 y3], .int .i64 0]) ∧ Below W.heap.size W w') := Lib.hid (fun W h => by rw [← HY.out]; exact HD.out W h)
    have HZ := HX.out l rfl
    rw [hy0, hy1, hy2, hy3] at HZ
    have HE2 := Lib.hid (fun W => encode_N y0 y1 y2 y3 HZ.2 B B.length HZ.1 rfl W)
    clear HD HX HZ hy0 hy1 hy2 hy3 HY
    go_enter Try.func14, Try.ntmps14
    go_wp2_with (first
      | (go_at_call 16; have _t := tok1; (with_reducible refine (HE.out _).mono ?_); rintro e w1 ⟨p1, q1, rfl, hr, hb⟩; have H1 := Lib.hid (And.intro hr (And.intro (HA.out.trans (hb.mono HA.out.size)) (HM.out.later hb))); clear hr hb tok1)
      | (go_at_call 37; (with_reducible refine (HR.out _ _ _ H1.out.1).mono ?_); rintro e w2 ⟨rfl, hb⟩; have H2 := Lib.hid (And.intro (H1.out.2.1.trans (hb.mono H1.out.2.1.size)) (H1.out.2.2.later hb)); obtain ⟨⟨x0, x1⟩, x2, x3⟩ := row_cells H2.out.2; have sz : w.heap.size < w2.heap.size := block_of_cell x0; clear hb)
      | (go_at_call 37; (with_reducible refine (HD2.out _ (RdB.later (RdB.later H0.out H2.out.1) (al1' w2 _))).mono ?_); rintro e w3 ⟨rfl, hb⟩; have H3 := Lib.hid ((H2.out.1.trans ((al1' w2 _).mono H2.out.1.size)).trans (hb.mono (by have := H2.out.1.size; simp; omega))); clear hb)
      | (go_at_call 16; (with_reducible refine (HE2.out _).mono ?_); rintro e w5 ⟨p2, q2, rfl, hr, hb⟩; have H5 := Lib.hid (And.intro hr ((H3.out.trans ((al1' w3 _).mono H3.out.size)).trans (hb.mono (by have := H3.out.size; simp; omega)))); clear hr hb)
      | (go_at_call 15; (with_reducible refine (HB2.out _ _ _ H5.out.1 (RdB.later H0.out H5.out.2)).mono ?_); rintro e w6 ⟨rfl, hb⟩; have H6 := Lib.hid (H5.out.2.trans (hb.mono H5.out.2.size)); clear hb)
      | (go_at_call 18; refine (awake_any _).mono ?_; rintro e w4 ⟨rfl, hb⟩; have H4 := Lib.hid hb; clear hb))
    go_ret
    exact ⟨rfl, H6.out.trans (H4.out.mono H6.out.size)⟩
end Go.Proofs.Ytapjdcofnigjhaa
