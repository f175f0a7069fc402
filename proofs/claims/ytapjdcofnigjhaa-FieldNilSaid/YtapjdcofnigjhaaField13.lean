/- The laws of package field: FieldNil. -/
import Derived.Test.YtapjdcofnigjhaaField12
import Derived.Laws.OwnMore
namespace Go.Proofs.Ytapjdcofnigjhaa
open Go.RowKit
theorem big_text : ∃ (M : Array Value) (S : ByteArray), S.size = 65537 ∧ (∀ W : World, (Instr.makeSlice 25 (.int .i64 65537) (.int .i64 65537)).run Try.prog W = .ok (.slice (some ⟨W.heap.size, 0, none⟩) 65537 65537) (W.alloc (.cells M 5))) ∧
    ∀ W : World, (convert 25 9 (.slice (some ⟨W.heap.size, 0, none⟩) 65537 65537)).run Try.prog (W.alloc (.cells M 5)) = .ok (.string S) (W.alloc (.cells M 5)) := by
  obtain ⟨i0, hi, hz0, hz1, hz2⟩ := info_parts Try.infoByte
  obtain ⟨n, hn⟩ : ∃ n : Nat, n = 65537 := ⟨_, rfl⟩
  obtain ⟨M, hM⟩ : ∃ M, M = madeCells (Value.int .u8 0).cells (((n : Nat) : Int).toNat * i0.size) := ⟨_, rfl⟩
  have hML : M.toList = bytesV (List.replicate n 0) := by
    rw [hM, hz1, Int.toNat_natCast, Nat.mul_one]
    show (madeCells #[Value.int .u8 0] n).toList = _
    rw [toList_madeCells_one]
    simp [bytesV]
  refine ⟨M, ⟨(List.replicate n 0).toArray⟩, by rw [text_size, List.length_replicate, hn], fun W => ?_, fun W => ?_⟩
  · have h := run_make (P := Try.prog) W 25 5 i0 (.int .u8 0) Try.underlying25 hi hz0 .i64 .i64 (n : Int) (n : Int) (by omega) (by omega) (by rw [hz2]; omega) (by omega)
    rw [← hM] at h
    rw [Int.toNat_natCast] at h
    have e : ((n : Nat) : Int) = 65537 := by omega
    rw [e, hn] at h
    exact h
  · have h := Rd.made W (bytesV (List.replicate n 0)) 5 1 n (by rw [bytesV_length, List.length_replicate]; omega) (by unfold maxLen; omega) (bytesV_one _) (0, 0)
    have e2 : (bytesV (List.replicate n 0)).toArray = M := by rw [← hML, Array.toArray_toList]
    rw [e2] at h
    have h2 := run_bytes_str (P := Try.prog) Try.underlying25 Try.underlying5 Try.underlying9 h
    rw [hn] at h2 ⊢
    exact h2
set_option maxRecDepth 100000 in
set_option maxHeartbeats 2000000 in
theorem fieldNil_walk (n : Int) (s : ByteArray) (w : World) (hs : s.size ≤ 9223372036854775807) :
    Calls Try.prog 11 #[.int .i64 n, .string s] w (FYes w) := by
  by_cases h1 : 100 < s.size
  · have h1' : (100 : Int) < (s.size : Int) := by omega
    go_enter Try.func11, Try.ntmps11
    go_wp2_with (go_at_call 23; refine (awake02 _).mono ?_; rintro e w4 ⟨rfl, hb⟩; have H4 := Lib.hid hb; clear hb)
    go_ret
    exact ⟨rfl, H4.out⟩
  · have h1' : (s.size : Int) ≤ 100 := by omega
    obtain ⟨M, S, hS, hmk, hcv⟩ := big_text
    have HW := Lib.hid (WNew.made (Below.refl w.heap.size w) 51)
    have HS := Lib.hid hS
    have hcv2 := hcv (w.alloc (.cells #[.slice none 0 0] 51))
    rw [World.size_alloc] at hcv2
    have HW2 := Lib.hid (HW.out.later (al1' (w.alloc (.cells #[.slice none 0 0] 51)) (.cells M 5)))
    have HNB := Lib.hid (nBytes w w.heap.size [] (by decide) _ HW2.out)
    clear hS hcv
    go_enter Try.func11, Try.ntmps11
    go_wp2_with (first
      | (go_at_call 33; refine (rUint_nil _).mono ?_; rintro e w1 ⟨rfl, rfl⟩)
      | (go_at_call 34; refine (rInt_nil _).mono ?_; rintro e w1 ⟨rfl, rfl⟩)
      | (go_at_call 35; refine (rText_nil n _).mono ?_; rintro e w1 ⟨rfl, rfl⟩)
      | (go_at_call 36; refine (left_nil _).mono ?_; rintro e w1 ⟨rfl, rfl⟩)
      | (go_at_call 29; first | ((with_reducible refine (wText_nil s _).mono ?_); rintro e w1 ⟨rfl, rfl⟩) | (refine (wText_big w.heap.size S (by have := HS.out; omega) (by have := HS.out; omega) _).mono ?_; rintro e w1 ⟨rfl, rfl⟩))
      | (go_at_call 24; refine (wUint_nil n _).mono ?_; rintro e w1 ⟨rfl, rfl⟩)
      | (go_at_call 27; refine (wInt_nil n _).mono ?_; rintro e w1 ⟨rfl, rfl⟩)
      | (go_at_call 30; (with_reducible refine (wBytes_nil _).mono ?_); rintro e w1 ⟨rfl, rfl⟩)
      | (go_at_call 30; (with_reducible refine HNB.out.mono ?_); rintro e w2 ⟨a2, c2, rfl, hr, hb⟩; have H2 := Lib.hid (HW2.out.low.trans (hb.mono HW2.out.low.size)); clear hr hb)
      | (go_at_call 23; refine (awake02 _).mono ?_; rintro e w4 ⟨rfl, hb⟩; have H4 := Lib.hid (H2.out.trans (hb.mono H2.out.size)); clear hb))
    go_ret
    exact ⟨rfl, H4.out⟩
end Go.Proofs.Ytapjdcofnigjhaa
