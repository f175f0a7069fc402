/- The walks of the laws of package sum (first part). -/
import Derived.Test.YtfpbgfhifbgokaaDoorSumWalks3
namespace Go.Proofs.YtfpbgfhifbgokaaDoor
open Go.RowKit

theorem refSum_int (n : Int) (h0 : 0 ≤ n) (h1 : n ≤ 4294967295) (a : Option Addr) (c : Nat) (bs : List UInt8) (w : World) (hrd : RdB w a c bs) :
    Calls Tryd.prog 12 #[.int .i64 n, .slice a bs.length c] w fun e w' => e = .returned (.int .i64 (Crc.sum n.toNat bs)) ∧ w = w' := by
  obtain ⟨m, rfl⟩ := Int.eq_ofNat_of_zero_le h0
  exact refSum_any m (by omega) a c bs w hrd
theorem more_int (n : Int) (h0 : 0 ≤ n) (h1 : n ≤ 4294967295) (a : Option Addr) (c : Nat) (bs : List UInt8) (w : World) (hrd : RdB w a c bs) (htab : Tab w) :
    Calls Tryd.prog 13 #[.int .i64 n, .slice a bs.length c] w fun e w' => e = .returned (.tuple #[.int .i64 (Crc.sum n.toNat bs), .int .i64 0]) ∧ w = w' := by
  obtain ⟨m, rfl⟩ := Int.eq_ofNat_of_zero_le h0
  exact more_any m (by omega) a c bs w hrd htab
theorem more_bad (n : Int) (h : n < 0 ∨ 4294967295 < n) (v : Value) (w : World) :
    Calls Tryd.prog 13 #[.int .i64 n, v] w fun e w' => e = .returned (.tuple #[.int .i64 0, .int .i64 10]) ∧ w = w' := by
  by_cases h0 : n < 0
  · go_enter Tryd.func13, Tryd.ntmps13
    go_wp2
    go_ret2
    exact ⟨rfl, rfl⟩
  · have h1 : 4294967295 < n := by omega
    clear h
    go_enter Tryd.func13, Tryd.ntmps13
    go_wp2
    go_ret2
    exact ⟨rfl, rfl⟩

/-- What a law's walk ends in. -/
def Yes (w : World) (e : Ending) (w' : World) : Prop := e = .returned (.bool true) ∧ Below w.heap.size w w'

set_option maxRecDepth 100000 in
set_option maxHeartbeats 400000 in
theorem tells_walk (a : Option Addr) (c : Nat) (bs : List UInt8) (w : World) (hrd : RdB w a c bs) (htab : Tab w) :
    Calls Tryd.prog 3 #[.slice a bs.length c] w (Yes w) := by
  have H := Lib.hid hrd
  have HT := Lib.hid htab
  clear hrd htab
  by_cases hl : 100 < bs.length
  all_goals
    go_enter Tryd.func3, Tryd.ntmps3
    go_wp2_with (first
      | (go_at_call 11; refine (sum_any _ _ _ _ H.out HT.out).mono ?_; rintro e w' ⟨rfl, rfl⟩)
      | (go_at_call 12; refine (refSum_int _ (by omega) (by omega) _ _ _ _ H.out).mono ?_; rintro e w' ⟨rfl, rfl⟩)
      | (go_at_call 10; refine (awake_any _ HT.out).mono ?_; rintro e w2 ⟨rfl, hb⟩))
    go_ret
    exact ⟨rfl, hb⟩

set_option maxRecDepth 100000 in
set_option maxHeartbeats 400000 in
theorem more_walk (n : Int) (a : Option Addr) (c : Nat) (bs : List UInt8) (w : World) (hrd : RdB w a c bs) (htab : Tab w) :
    Calls Tryd.prog 5 #[.int .i64 n, .slice a bs.length c] w (Yes w) := by
  have H := Lib.hid hrd
  have HT := Lib.hid htab
  clear hrd htab
  by_cases hl : 100 < bs.length
  · go_enter Tryd.func5, Tryd.ntmps5
    go_wp2_with (go_at_call 10; refine (awake_any _ HT.out).mono ?_; rintro e w2 ⟨rfl, hb⟩)
    go_ret
    exact ⟨rfl, hb⟩
  · by_cases hn : n < 0
    · go_enter Tryd.func5, Tryd.ntmps5
      go_wp2_with (first
        | (go_at_call 13; refine (more_bad _ (by omega) _ _).mono ?_; rintro e w' ⟨rfl, rfl⟩)
        | (go_at_call 10; refine (awake_any _ HT.out).mono ?_; rintro e w2 ⟨rfl, hb⟩))
      go_ret
      exact ⟨rfl, hb⟩
    · by_cases hn2 : 4294967295 < n
      · go_enter Tryd.func5, Tryd.ntmps5
        go_wp2_with (first
          | (go_at_call 13; refine (more_bad _ (by omega) _ _).mono ?_; rintro e w' ⟨rfl, rfl⟩)
          | (go_at_call 10; refine (awake_any _ HT.out).mono ?_; rintro e w2 ⟨rfl, hb⟩))
        go_ret
        exact ⟨rfl, hb⟩
      · go_enter Tryd.func5, Tryd.ntmps5
        go_wp2_with (first
          | (go_at_call 13; refine (more_int _ (by omega) (by omega) _ _ _ _ H.out HT.out).mono ?_; rintro e w' ⟨rfl, rfl⟩)
          | (go_at_call 12; refine (refSum_int _ (by omega) (by omega) _ _ _ _ H.out).mono ?_; rintro e w' ⟨rfl, rfl⟩)
          | (go_at_call 10; refine (awake_any _ HT.out).mono ?_; rintro e w2 ⟨rfl, hb⟩))
        go_ret
        exact ⟨rfl, hb⟩
end Go.Proofs.YtfpbgfhifbgokaaDoor
