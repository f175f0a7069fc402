/- Package proc: Bound, named, number; the law's Same. -/
import Derived.Test.YtgoegdlhbadlfaaDoorPr7
namespace Go.Proofs.YtgoegdlhbadlfaaDoor
namespace Pc
open Go.RowKit
def boundP (l : List OpP) : Int := if checkP l = 0 then stepsP l else 0
theorem bound_any (l : List OpP) (a : Option Addr) (c : Nat) (w : World) (hL : Laid w) (hrd : Rd w 5 a l.length c (opsV l)) :
    Calls Tryd.prog 6 #[.slice a l.length c] w fun e V => e = .returned (.tuple #[.int .i64 (boundP l), .int .i64 (checkP l)]) ∧ Below w.heap.size w V := by
  have HR := Lib.hid hrd
  have HC := Lib.hid (check_any l a c w hL hrd)
  clear hrd hL
  by_cases h0 : checkP l = 0
  · have HS := Lib.hid (fun W hb => steps_any l.length l a c W (Nat.le_refl _) (check_ok h0).1 (check_lam h0).1 (check_lam h0).2 (HR.out.later hb))
    have hb0 : boundP l = stepsP l := by unfold boundP; rw [if_pos h0]
    rw [hb0]
    rw [h0] at HC ⊢
    clear hb0 h0
    go_enter Tryd.func6, Tryd.ntmps6
    go_wp2_with (first
      | (go_at_call 10; refine HC.out.mono ?_; rintro _ W ⟨rfl, hbW⟩; have HW := Lib.hid hbW; clear hbW)
      | (go_at_call 11; refine (HS.out _ HW.out).mono ?_; rintro _ U ⟨rfl, hbU⟩; have HU := Lib.hid hbU; clear hbU))
    go_ret2
    exact ⟨rfl, HW.out.trans (HU.out.mono HW.out.size)⟩
  · have hb0 : boundP l = 0 := by unfold boundP; rw [if_neg h0]
    rw [hb0]
    clear hb0
    obtain ⟨e, he⟩ : ∃ e, checkP l = e := ⟨_, rfl⟩
    rw [he] at HC h0 ⊢
    clear he
    go_enter Tryd.func6, Tryd.ntmps6
    go_wp2_with (go_at_call 10; refine HC.out.mono ?_; rintro _ W ⟨rfl, hbW⟩; have HW := Lib.hid hbW; clear hbW)
    go_ret2
    exact ⟨rfl, HW.out⟩
theorem list_of (a : Str) : (⟨a.toArray⟩ : ByteArray).toList = a := by rw [Lib.toList_data]
theorem str_eql (t : TypeId) (a b : Str) : binOp .eql t (.string ⟨a.toArray⟩) (.string ⟨b.toArray⟩) = pure (.bool (a == b)) := by
  simp [binOp, Op.stringOp, list_of]
theorem str_neq (t : TypeId) (a b : Str) : binOp .neq t (.string ⟨a.toArray⟩) (.string ⟨b.toArray⟩) = pure (.bool (!(a == b))) := by
  simp [binOp, Op.stringOp, list_of]
/-- What the op of a word does. -/
def namedG (s : Str) : Nat → Nat → Nat
  | 0, _ => 0
  | n + 1, k => if wordN k = s then k else namedG s n (k + 1)
def namedP (s : Str) : Nat := namedG s 15 1
theorem namedG_le (s : Str) : ∀ n k, namedG s n k < k + n ∨ namedG s n k = 0
  | 0, _ => .inr rfl
  | n + 1, k => by
    unfold namedG
    split
    · exact .inl (by omega)
    · rcases namedG_le s n (k + 1) with h | h
      · exact .inl (by omega)
      · exact .inr h
theorem namedP_lt (s : Str) : namedP s < 16 := by
  rcases namedG_le s 15 1 with h | h <;> (unfold namedP; omega)
set_option maxHeartbeats 1000000 in
theorem named_any (s : Str) (w : World) (hL : Laid w) : Calls Tryd.prog 29 #[.string ⟨s.toArray⟩] w fun e V => e = .returned (.int .i64 (namedP s)) ∧ w = V := by
  have HL := Lib.hid hL
  clear hL
  go_enter Tryd.func29, Tryd.ntmps29
  go_wp2
  go_loopw [3] (fun d wr => ∃ k : Nat, 1 ≤ k ∧ k ≤ 16 ∧ d = .int .i64 k ∧ Hid (wr = w ∧ namedG s (16 - k) k = namedP s)) (fun d _ => 16 - (intP d).toNat)
  case atStart => exact ⟨1, by omega, by omega, rfl, Lib.hid ⟨rfl, rfl⟩⟩
  case round =>
    obtain ⟨k, k1, k16, rfl, HK⟩ := hrel
    have HK1 := Lib.hid HK.out.2
    have hw := HK.out.1
    subst hw
    clear HK
    by_cases hlt : k < 16
    · obtain ⟨f, hf⟩ : ∃ f, 16 - k = f + 1 := ⟨15 - k, by omega⟩
      have q0 := HL.out.word k hlt
      have q1 : ∀ t, binOp .eql t (strV (wordN k)) (.string ⟨s.toArray⟩) = pure (.bool (wordN k == s)) := fun t => str_eql t _ _
      have ki : (k : Int) ≤ 15 := by omega
      have k0 : (0 : Int) ≤ (k : Int) := by omega
      have kk : (k : Int) < 16 := by omega
      unfold strV at q0 q1
      by_cases he : wordN k = s
      · have q2 : (wordN k == s) = true := beq_iff_eq.2 he
        have HN : Hid (namedP s = k) := Lib.hid (by rw [← HK1.out, hf, namedG, if_pos he])
        rw [q2] at q1
        clear he q2 hf
        go_wp2
        go_ret
        exact ⟨by rw [HN.out]; rfl, rfl⟩
      · have q2 : (wordN k == s) = false := beq_eq_false_iff_ne.2 he
        have HN : Hid (namedG s (16 - (k + 1)) (k + 1) = namedP s) := Lib.hid (by rw [← HK1.out, hf, namedG, if_neg he, show 16 - (k + 1) = f by omega])
        rw [q2] at q1
        clear he q2 hf
        go_wp2
        go_roundw
        case rel => exact ⟨k + 1, by omega, by omega, by go_num, Lib.hid ⟨by first | trivial | rfl, HN.out⟩⟩
        case measure => simp [intP]; omega
    · obtain rfl : k = 16 := by omega
      go_wp2
      go_ret
      have h1 := HK1.out
      exact ⟨by rw [← h1]; rfl, rfl⟩
end Pc
end Go.Proofs.YtgoegdlhbadlfaaDoor
