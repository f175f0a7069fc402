/- Joined: Tree26. -/
import Derived.Test.YtbempjkkohjnbaaYTreeE
import Derived.Lib.Strings
/- slices.Clone of a node's pairs. -/
namespace Go.Proofs.Ytbempjkkohjnbaa
open Go.RowKit Tr

theorem Loc.empty (w : World) (size : Nat) (ob : Obj) (x : Addr) : Loc size w (w.alloc ob) (some x) 0 0 [] :=
  ⟨noCells, ⟨by simp, Nat.le_refl _, Nat.zero_le _, (fun h => by cases h), (fun _ h => by cases h), fun _ _ h => by simp at h⟩, fun _ _ h => h.elim, fun _ _ h => h.elim, al1 w ob⟩
set_option maxHeartbeats 1000000 in
set_option maxRecDepth 100000 in
theorem cloneP_any (F : Foot) (a : Option Addr) (c : Nat) (L : List Pr) (hn : L.length ≤ 100000) (w : World) (h : Sl w 2 F a L.length c (pairsV L)) :
    Calls Try.prog 67 #[.slice a L.length c] w fun e V => ∃ a' c', e = .returned (.slice a' L.length c') ∧ Loc 2 w V a' L.length c' (pairsV L) := by
  obtain ⟨i0, hi, hz0, hz1, hz2⟩ := info_parts Try.infoPair
  have hnil := fun (w : World) (n c n' c' : Nat) => Lib.run_eql_slice_nil (P := Try.prog) w 88 97 a n c n' c' Try.underlying88
  obtain ⟨n, hL⟩ : ∃ n, L.length = n := ⟨_, rfl⟩
  rw [hL] at h ⊢
  cases a with
  | none =>
    obtain rfl : c = 0 := h.nil rfl
    obtain rfl : n = 0 := by have := h.le; omega
    obtain rfl : L = [] := List.eq_nil_of_length_eq_zero hL
    clear h hL hn
    go_enter Try.func67, Try.ntmps67
    go_wp2
    go_ret
    exact ⟨none, 0, rfl, Loc.start 2 w w (Below.refl _ _)⟩
  | some x =>
    have HR : Hid (∀ ob, Rd (w.alloc ob) 2 (some x) n c (pairsV L)) := Lib.hid (fun ob => (h.laid ob).rd)
    rw [hL] at hn
    clear h hL
    go_enter Try.func67, Try.ntmps67
    go_wp2_with (at_builtin; refine wpList_app_loc rfl (.tmp 5) (.tmp 6) 88 rfl 97 i0 _ 2 32 Try.underlying88 hi hz0 hz1 hz2 rfl (by decide) w (some ⟨w.heap.size, 0, none⟩) 0 0 [] rfl (Loc.empty w 2 _ _) (some x) n c (pairsV L) rfl (HR.out _) n (pairsV L) (Nat.zero_add n) (List.nil_append _) (by unfold maxLen; omega) (by omega) ?_; intro a1 c1 w1 ho; have H1 := Lib.hid ho; clear ho)
    go_ret
    exact ⟨a1, c1, rfl, H1.out⟩
end Go.Proofs.Ytbempjkkohjnbaa
