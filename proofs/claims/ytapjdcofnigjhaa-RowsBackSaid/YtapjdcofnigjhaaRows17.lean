/- The walk of RowsDecode. -/
import Derived.Test.YtapjdcofnigjhaaRows16
import Derived.Test.YtapjdcofnigjhaaRowsEq
namespace Go.Proofs.Ytapjdcofnigjhaa
open Go.RowKit
theorem rb_true : ∀ (a b c d : Int), (a == a && (b == b && (c == c && d == d))) = true := fun a b c d => by simp
set_option maxRecDepth 100000 in
set_option maxHeartbeats 4000000 in
theorem rowsDecode_walk (a1 : Option Addr) (c1 : Nat) (B : List UInt8) (w : World) (h : RdB w a1 c1 B) :
    Calls Try.prog 13 #[.slice a1 B.length c1] w (Yes w) := by
  have hBm : (B.length : Int) ≤ 9223372036854775807 := by have := h.le; unfold maxLen at this; omega
  by_cases hB : 100 < B.length
  · have hB' : (100 : Int) < (B.length : Int) := by omega
    clear h hB
    go_enter Try.func13, Try.ntmps13
    go_wp2_with (go_at_call 18; refine (awake_any _).mono ?_; rintro e w4 ⟨rfl, hb⟩; have H4 := Lib.hid hb; clear hb)
    go_ret
    exact ⟨rfl, H4.out⟩
  have hB' : (B.length : Int) ≤ 100 := by omega
  have hbl : B.length ≤ 1000000 := by omega
  have H0 := Lib.hid h
  have HR := Lib.hid (fun W h => rowsDecode a1 c1 B hbl W h)
  have HF := Lib.hid (fun W h => refDecode a1 c1 B hbl W h)
  have hgR := guardRow
  clear h hB hBm hbl
  obtain ⟨D, hD⟩ : ∃ D, Fd.row B = D := ⟨_, rfl⟩
  rw [hD] at HR HF
  clear hD
  cases D with
  | none =>
    have HR2 : Hid (∀ W : World, RdB W a1 c1 B → Calls Try.prog 37 #[.slice a1 B.length c1] W fun e w' => e = .returned (.tuple #[.agg #[.int .i64 0, .int .i64 0, .int .i64 0, .int .i64 0], .int .i64 11]) ∧ Below W.heap.size W w') := HR
    have HF2 : Hid (∀ W : World, RdB W a1 c1 B → Calls Try.prog 38 #[.slice a1 B.length c1] W fun e w' => e = .returned (.tuple #[.agg #[.int .i64 0, .int .i64 0, .int .i64 0, .int .i64 0], .bool false]) ∧ Below W.heap.size W w') := HF
    clear HR HF
    have hq := eqlRow 0 0 0 0 0 0 0 0 true rfl
    go_enter Try.func13, Try.ntmps13
    go_wp2_with (first
      | (go_at_call 37; refine (HR2.out _ H0.out).mono ?_; rintro e w1 ⟨rfl, hb⟩; have H1 := Lib.hid hb; clear hb)
      | (go_at_call 38; refine (HF2.out _ (RdB.later (RdB.later H0.out H1.out) (al1' w1 _))).mono ?_; rintro e w2 ⟨rfl, hb⟩; have H2 := Lib.hid ((H1.out.trans ((al1' w1 _).mono H1.out.size)).trans (hb.mono (by have := H1.out.size; simp; omega))); have x0 := old_cell (show (w1.alloc (.cells #[.int .i64 0, .int .i64 0, .int .i64 0, .int .i64 0] 23)).cell? ⟨w1.heap.size, 0, none⟩ = _ from by simp; rfl) hb; have x1 := old_cell (show (w1.alloc (.cells #[.int .i64 0, .int .i64 0, .int .i64 0, .int .i64 0] 23)).cell? ⟨w1.heap.size, 1, none⟩ = _ from by simp; rfl) hb; have x2 := old_cell (show (w1.alloc (.cells #[.int .i64 0, .int .i64 0, .int .i64 0, .int .i64 0] 23)).cell? ⟨w1.heap.size, 2, none⟩ = _ from by simp; rfl) hb; have x3 := old_cell (show (w1.alloc (.cells #[.int .i64 0, .int .i64 0, .int .i64 0, .int .i64 0] 23)).cell? ⟨w1.heap.size, 3, none⟩ = _ from by simp; rfl) hb; have sz : w1.heap.size < w2.heap.size := block_of_cell x0; clear hb)
      | (go_at_call 18; refine (awake_any _).mono ?_; rintro e w4 ⟨rfl, hb⟩; have H4 := Lib.hid hb; clear hb))
    go_ret
    first
      | exact ⟨rfl, H2.out.trans (H4.out.mono H2.out.size)⟩
      | exact ⟨rfl, (H2.out.trans ((al1' w2 _).mono H2.out.size)).trans (H4.out.mono (by have := H2.out.size; simp; omega))⟩
  | some l =>
    obtain ⟨y0, hy0⟩ : ∃ y, l.getD 0 0 = y := ⟨_, rfl⟩
    obtain ⟨y1, hy1⟩ : ∃ y, l.getD 1 0 = y := ⟨_, rfl⟩
    obtain ⟨y2, hy2⟩ : ∃ y, l.getD 2 0 = y := ⟨_, rfl⟩
    obtain ⟨y3, hy3⟩ : ∃ y, l.getD 3 0 = y := ⟨_, rfl⟩
    have HY : Hid (lRow l = .agg #[.int .i64 y0, .int .i64 y1, .int .i64 y2, .int .i64 y3]) := Lib.hid (by unfold lRow; rw [hy0, hy1, hy2, hy3])
    have HR2 : Hid (∀ W : World, RdB W a1 c1 B → Calls Try.prog 37 #[.slice a1 B.length c1] W fun e w' => e = .returned (.tuple #[.agg #[.int .i64 y0, .int .i64 y1, .int .i64 y2, .int .i64 y3], .int .i64 0]) ∧ Below W.heap.size W w') := Lib.hid (fun W h => by rw [← HY.out]; exact HR.out W h)
    have HF2 : Hid (∀ W : World, RdB W a1 c1 B → Calls Try.prog 38 #[.slice a1 B.length c1] W fun e w' => e = .returned (.tuple #[.agg #[.int .i64 y0, .int .i64 y1, .int .i64 y2, .int .i64 y3], .bool true]) ∧ Below W.heap.size W w') := Lib.hid (fun W h => by rw [← HY.out]; exact HF.out W h)
    clear HR HF hy0 hy1 hy2 hy3 HY
    have hq := eqlRow y0 y1 y2 y3 y0 y1 y2 y3 true (rb_true _ _ _ _)
    go_enter Try.func13, Try.ntmps13
    go_wp2_with (first
      | (go_at_call 37; refine (HR2.out _ H0.out).mono ?_; rintro e w1 ⟨rfl, hb⟩; have H1 := Lib.hid hb; clear hb)
      | (go_at_call 38; refine (HF2.out _ (RdB.later (RdB.later H0.out H1.out) (al1' w1 _))).mono ?_; rintro e w2 ⟨rfl, hb⟩; have H2 := Lib.hid ((H1.out.trans ((al1' w1 _).mono H1.out.size)).trans (hb.mono (by have := H1.out.size; simp; omega))); have x0 := old_cell (show (w1.alloc (.cells #[.int .i64 y0, .int .i64 y1, .int .i64 y2, .int .i64 y3] 23)).cell? ⟨w1.heap.size, 0, none⟩ = _ from by simp; rfl) hb; have x1 := old_cell (show (w1.alloc (.cells #[.int .i64 y0, .int .i64 y1, .int .i64 y2, .int .i64 y3] 23)).cell? ⟨w1.heap.size, 1, none⟩ = _ from by simp; rfl) hb; have x2 := old_cell (show (w1.alloc (.cells #[.int .i64 y0, .int .i64 y1, .int .i64 y2, .int .i64 y3] 23)).cell? ⟨w1.heap.size, 2, none⟩ = _ from by simp; rfl) hb; have x3 := old_cell (show (w1.alloc (.cells #[.int .i64 y0, .int .i64 y1, .int .i64 y2, .int .i64 y3] 23)).cell? ⟨w1.heap.size, 3, none⟩ = _ from by simp; rfl) hb; have sz : w1.heap.size < w2.heap.size := block_of_cell x0; clear hb)
      | (go_at_call 18; refine (awake_any _).mono ?_; rintro e w4 ⟨rfl, hb⟩; have H4 := Lib.hid hb; clear hb))
    go_ret
    first
      | exact ⟨rfl, H2.out.trans (H4.out.mono H2.out.size)⟩
      | exact ⟨rfl, (H2.out.trans ((al1' w2 _).mono H2.out.size)).trans (H4.out.mono (by have := H2.out.size; simp; omega))⟩
end Go.Proofs.Ytapjdcofnigjhaa
