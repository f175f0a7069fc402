/- The walk of RowsEncode. -/
import Derived.Test.YtapjdcofnigjhaaRows5
namespace Go.Proofs.Ytapjdcofnigjhaa
open Go.RowKit

theorem row_cells {w : World} {b : Nat} {a0 a1 a2 a3 : Int} (h : RowAt w b 0 (rowF a0 a1 a2 a3)) : (w.cell? ⟨b, 0, none⟩ = some (.int .i64 a0) ∧ w.cell? ⟨b, 1, none⟩ = some (.int .i64 a1)) ∧ w.cell? ⟨b, 2, none⟩ = some (.int .i64 a2) ∧ w.cell? ⟨b, 3, none⟩ = some (.int .i64 a3) :=
  ⟨⟨by simpa [rowF] using h 0 (by omega), by simpa [rowF] using h 1 (by omega)⟩, by simpa [rowF] using h 2 (by omega), by simpa [rowF] using h 3 (by omega)⟩
set_option maxHeartbeats 2000000 in
theorem rowsEncode_walk (a0 a1 a2 a3 : Int) (hf : InR (rowF a0 a1 a2 a3)) (w : World) :
    Calls Try.prog 3 #[rowV a0 a1 a2 a3] w (Yes w) := by
  have HE := Lib.hid (fun w1 => encode_any a0 a1 a2 a3 hf w1)
  have HF := Lib.hid (fun w1 => refEncode a0 a1 a2 a3 hf w1)
  have HR := Lib.hid (RowAt.made w a0 a1 a2 a3 23)
  have HA := Lib.hid (al1 w (.cells #[.int .i64 a0, .int .i64 a1, .int .i64 a2, .int .i64 a3] 23))
  have HB := Lib.hid (fun a c b d w1 h1 h2 => bytes_B a c (encR (rowF a0 a1 a2 a3) 4) b d (encR (rowF a0 a1 a2 a3) 4) w1 h1 h2)
  rw [show decide (encR (rowF a0 a1 a2 a3) 4 = encR (rowF a0 a1 a2 a3) 4) = true from decide_eq_true rfl] at HB
  clear hf
  go_enter Try.func3, Try.ntmps3
  go_wp2
  generalize w.alloc (.cells #[.int .i64 a0, .int .i64 a1, .int .i64 a2, .int .i64 a3] 23) = W at *
  go_region_held3 (fun W => (W.cell? ⟨w.heap.size, 0, none⟩ = some (.int .i64 a0) ∧ W.cell? ⟨w.heap.size, 1, none⟩ = some (.int .i64 a1)) ∧ W.cell? ⟨w.heap.size, 2, none⟩ = some (.int .i64 a2) ∧ W.cell? ⟨w.heap.size, 3, none⟩ = some (.int .i64 a3))
    (first | exact row_cells HR.out | exact row_cells (HR.out.later H1.out.2) | exact row_cells (HR.out.later H2.out.2.2) | exact row_cells (HR.out.later H3.out) | exact row_cells (HR.out.later H4.out))
    (first
      | (go_at_call 16; refine (HE.out _).mono ?_; rintro e w1 ⟨b1, c1, rfl, hrd, hb⟩; have H1 := Lib.hid (And.intro hrd ((Below.refl W.heap.size W).drew.trans hb)); clear hrd hb)
      | (go_at_call 17; refine (HF.out _).mono ?_; rintro e w2 ⟨b2, c2, rfl, hrd, hb⟩; have H2 := Lib.hid (And.intro (H1.out.1.later hb) (And.intro hrd (H1.out.2.trans (hb.mono H1.out.2.size)))); clear hrd hb)
      | (go_at_call 15; refine (HB.out b1 c1 b2 c2 _ H2.out.1 H2.out.2.1).mono ?_; rintro e w3 ⟨rfl, hb⟩; have H3 := Lib.hid (H2.out.2.2.trans (hb.mono H2.out.2.2.size)); clear hb)
      | (go_at_call 18; refine (awake_any _).mono ?_; rintro e w4 ⟨rfl, hb⟩; have H4 := Lib.hid (H3.out.trans (hb.mono H3.out.size)); clear hb))
  go_wp2
  go_ret
  exact ⟨rfl, HA.out.trans (H4.out.mono HA.out.size)⟩
end Go.Proofs.Ytapjdcofnigjhaa
