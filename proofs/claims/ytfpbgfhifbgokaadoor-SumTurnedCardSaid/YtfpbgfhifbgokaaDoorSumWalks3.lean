/- The chapter's examples. -/
import Derived.Test.YtfpbgfhifbgokaaDoorSumWalks2
import Derived.Lib.SlBytesConst
namespace Go.Proofs.YtfpbgfhifbgokaaDoor
open Go.RowKit

def digits : List UInt8 := [49, 50, 51, 52, 53, 54, 55, 56, 57]
theorem digits_sum : Crc.sum 0 digits = 3421780262 := by decide +kernel
theorem empty_seal : Crc.seal4 [] = [0, 0, 0, 0] := by decide +kernel

theorem Tab.later {w w' : World} (h : Tab w) (hb : Below w.heap.size w w') : Tab w' := by
  intro i hi
  have h1 := h i hi
  have := block_of_cell h1
  rw [hb.cell (p := ⟨0, i, none⟩) this]
  exact h1

def digitCells : Array Value := #[.int .u8 49, .int .u8 50, .int .u8 51, .int .u8 52, .int .u8 53, .int .u8 54, .int .u8 55, .int .u8 56, .int .u8 57]
theorem digits_made (w : World) : RdB (w.alloc (.cells digitCells 5 (9, 10))) (some ⟨w.heap.size, 0, none⟩) 9 digits :=
  Rd.made w (bytesV digits) 5 1 9 rfl (by decide) (bytesV_one _) (9, 10)

theorem sum_digits (w : World) (htab : Tab w) : Calls Tryd.prog 11 #[.slice (some ⟨w.heap.size, 0, none⟩) 9 9] (w.alloc (.cells digitCells 5 (9, 10)))
    fun e w' => e = .returned (.int .i64 3421780262) ∧ w.alloc (.cells digitCells 5 (9, 10)) = w' :=
  (sum_any _ 9 digits _ (digits_made w) (htab.later ((Below.refl _ _).alloc (Nat.le_refl _) _))).mono fun e w' ⟨he, hw⟩ => ⟨by rw [he, digits_sum]; rfl, hw⟩

def FourZero (w : World) (e : Ending) (w' : World) : Prop := ∃ a c, e = .returned (.slice a 4 c) ∧ RdB w' a c [0, 0, 0, 0] ∧ Below w.heap.size w w'
theorem seal_nil (w : World) (htab : Tab w) : Calls Tryd.prog 16 #[.slice none 0 0] w (FourZero w) :=
  (seal_any none 0 [] w (Rd.nilSlice _ _) htab (by decide)).mono fun e w' ⟨a, c, he, hr, hb⟩ => by
    rw [empty_seal] at he hr
    exact ⟨a, c, he, hr, hb⟩
theorem zeros_made (w : World) : RdB (w.alloc (.cells #[.int .u8 0, .int .u8 0, .int .u8 0, .int .u8 0] 5)) (some ⟨w.heap.size, 0, none⟩) 4 [0, 0, 0, 0] :=
  Rd.made w (bytesV [0, 0, 0, 0]) 5 1 4 rfl (by decide) (bytesV_one _) (0, 0)
theorem bytes_same (a : Option Addr) (c : Nat) (b : Option Addr) (d : Nat) (w : World) (hx : RdB w a c [0, 0, 0, 0]) (hy : RdB w b d [0, 0, 0, 0]) :
    Calls Tryd.prog 15 #[.slice a 4 c, .slice b 4 d] w fun e w' => e = .returned (.bool true) ∧ ∃ n, w' = w.drewN n :=
  bytes_any a c [0, 0, 0, 0] b d [0, 0, 0, 0] w hx hy

set_option maxHeartbeats 400000 in
theorem awake_any (w : World) (htab : Tab w) :
    Calls Tryd.prog 10 #[] w fun e w' => e = .returned (.bool true) ∧ Below w.heap.size w w' := by
  have kc := fun (C : Array Value) (n c : Nat) => Lib.run_convert_bytes_const (P := Tryd.prog) w 22 5 C n c Tryd.underlying22 Tryd.underlying5
  have hb0 := (Below.refl w.heap.size w).alloc (Nat.le_refl _) (.cells digitCells 5 (9, 10))
  have HT := Lib.hid htab
  have HT1 := Lib.hid (htab.later hb0)
  clear htab
  go_enter Tryd.func10, Tryd.ntmps10
  go_wp2_with (first
    | (go_at_call 11; refine (sum_digits w HT.out).mono ?_; rintro e w' ⟨rfl, rfl⟩)
    | (go_at_call 16; refine (seal_nil _ HT1.out).mono ?_; rintro e w1 ⟨a1, c1, rfl, hr1, hb1⟩)
    | (go_at_call 15; refine (bytes_same _ _ _ _ _ (hr1.later ((Below.refl _ _).alloc (Nat.le_refl _) _)) (zeros_made w1)).mono ?_; rintro e w2 ⟨rfl, n2, rfl⟩))
  go_ret
  refine ⟨rfl, below_drewN ?_ _⟩
  exact (hb0.trans (hb1.mono (by simp))).alloc (Nat.le_trans hb0.size hb1.size) _
end Go.Proofs.YtfpbgfhifbgokaaDoor
