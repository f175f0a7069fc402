/- Get: what is no key's entry; the cut of a text. -/
import Derived.Test.YtakgpljpdcjmfaaKeysGet
import Derived.Test.YtakgpljpdcjmfaaKeysClone
namespace Go.Proofs.Ytakgpljpdcjmfaa
open Go.RowKit

theorem cut8 (l : List UInt8) (h : 8 ≤ l.length) (W : World) : (Instr.slice 9 (.string ⟨l.toArray⟩) (some (.int .i64 8)) none none).run Try.prog W = .ok (.string ⟨(l.drop 8).toArray⟩) W := by
  have hsz : (⟨l.toArray⟩ : ByteArray).size = l.length := by simp [ByteArray.size]
  rw [run_slice_string_l W 9 (ht := Try.underlying9) (s := ⟨l.toArray⟩) .i64 8 (by omega) (by rw [hsz]; omega)]
  congr 2
  apply ByteArray.ext
  simp [ByteArray.size, ByteArray.data_extract]
  exact List.take_of_length_le (by rw [List.length_drop]; exact Nat.le_refl _)

set_option maxHeartbeats 1000000 in
theorem get_short (l : List UInt8) (h : l.length < 8) (w : World) :
    Calls Try.prog 15 #[.string ⟨l.toArray⟩] w fun e w' => e = .returned (.tuple #[.agg #[.int .i64 0, .string ⟨#[]⟩], .int .i64 11]) ∧ Below w.heap.size w w' := by
  go_enter Try.func15, Try.ntmps15
  go_wp2
  go_returns
  exact ⟨rfl, al1 _ _⟩
set_option maxHeartbeats 1000000 in
theorem get_bad (l : List UInt8) (h : 8 ≤ l.length) (ho : okKey (l.drop 8) = false) (w : World) :
    Calls Try.prog 15 #[.string ⟨l.toArray⟩] w fun e w' => e = .returned (.tuple #[.agg #[.int .i64 0, .string ⟨#[]⟩], .int .i64 11]) ∧ Below w.heap.size w w' := by
  have hc : chk (l.drop 8) = 13 := by unfold chk; rw [ho]; rfl
  have HC := Lib.hid (check_any (l.drop 8))
  rw [hc] at HC
  have hcut := cut8 l h
  clear ho hc
  go_enter Try.func15, Try.ntmps15
  go_wp2_with (go_at_call 11; refine (HC.out _).mono ?_; rintro e w1 ⟨rfl, rfl⟩)
  go_returns
  exact ⟨rfl, al1 _ _⟩
end Go.Proofs.Ytakgpljpdcjmfaa
