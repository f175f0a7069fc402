/- The walks of the laws of package keys: KeysPuts, KeysBounds. -/
import Derived.Test.YtakgpljpdcjmfaaKeysLaws1
import Derived.Test.YtakgpljpdcjmfaaKeysRefs
namespace Go.Proofs.Ytakgpljpdcjmfaa
open Go.RowKit

theorem box_one (w : World) (v : Int) (s : List UInt8) (T : TypeId) {w1 : World} (hb : Below (w.alloc (.cells #[.int .i64 v, .string ⟨s.toArray⟩] T)).heap.size (w.alloc (.cells #[.int .i64 v, .string ⟨s.toArray⟩] T)) w1) :
    Box w1 w.heap.size v s ∧ Below w.heap.size w w1 := by
  have a1 := al1 w (.cells #[.int .i64 v, .string ⟨s.toArray⟩] T)
  exact ⟨(Box.made w v s T).later hb, a1.trans (hb.mono a1.size)⟩
theorem conv_str {w : World} {a : Option Addr} {c : Nat} {bs : List UInt8} (h : RdB w a c bs) : (convert 30 9 (.slice a bs.length c)).run Try.prog w = .ok (.string ⟨bs.toArray⟩) w :=
  run_bytes_str Try.underlying30 Try.underlying5 Try.underlying9 h
theorem enc_slice {a : Option Addr} {c : Nat} (v : Int) : Value.slice a (Ky.enc v).length c = .slice a 8 c := by rw [Ky.enc_length]
theorem refValue8 (v : Int) (hv : Ky.In v) (w : World) :
    Calls Try.prog 13 #[.int .i64 v] w fun e w' => ∃ a c, e = .returned (.slice a 8 c) ∧ (convert 30 9 (.slice a 8 c)).run Try.prog w' = .ok (.string ⟨(Ky.enc v).toArray⟩) w' ∧ Below w.heap.size w w' := by
  refine (refValue v hv w).mono ?_
  rintro e w' ⟨a, c, rfl, hrd, hb⟩
  have h := conv_str hrd
  rw [enc_slice] at h ⊢
  exact ⟨a, c, rfl, h, hb⟩

/-- Where an entry's bytes lie. -/
theorem put_low {v a : Int} (hv : Ky.In v) (ha : Ky.In a) (s : List UInt8) : Op.bytesLess (Ky.put v s) (Ky.enc a) = decide (v < a) := by
  have h := Ky.put_less hv ha s []
  have e : Ky.put a [] = Ky.enc a := by simp [Ky.put]
  rw [e] at h
  refine h.trans ?_
  unfold Ky.cmpE Ky.cmpS
  rw [Ky.less_nil_right]
  by_cases h1 : v < a
  · simp [h1]
  · by_cases h2 : a < v
    · simp [h1, h2]
    · by_cases h3 : Ky.less [] s = true <;> simp [h1, h2, h3]
theorem str_neq (t : TypeId) (a b : List UInt8) : binOp .neq t (.string ⟨a.toArray⟩) (.string ⟨b.toArray⟩) = pure (.bool (!(a == b))) := by
  simp [binOp, Op.stringOp, list_of]
theorem enc_ne (v : Int) : Ky.enc v ≠ [] := by
  intro h
  have := congrArg List.length h
  rw [Ky.enc_length] at this
  cases this

set_option maxRecDepth 100000 in
set_option maxHeartbeats 2000000 in
theorem bounds_walk (a b : Int) (v : Int) (s : List UInt8) (ha : Ky.In a) (hb : Ky.In b) (hv : Ky.In v) (w : World) :
    Calls Try.prog 4 #[.int .i64 a, .int .i64 b, entV v s] w (Yes w) := by
  by_cases h1 : b < a
  · have HB := Lib.hid (bounds_bad a b h1)
    clear ha hb hv
    go_enter Try.func4, Try.ntmps4
    go_wp2_with (first
      | (go_at_call 14; refine (HB.out _).mono ?_; rintro e w1 ⟨rfl, rfl⟩)
      | (go_at_call 9; refine (awake_any _).mono ?_; rintro e w2 ⟨rfl, hb2⟩; have HB2 := Lib.hid (box_one w v s _ hb2).2; clear hb2))
    go_ret
    exact ⟨rfl, HB2.out⟩
  have HBo := Lib.hid (bounds_good a b ha hb h1)
  have HVa := Lib.hid (refValue8 a ha)
  have ea := str_neq 9 (Ky.enc a) (Ky.enc a)
  rw [beq_self_eq_true] at ea
  -- what the test says of the entry
  have htest : okKey s = true → (v < a ∧ Op.bytesLess (Ky.put v s) (Ky.enc a) = true) ∨
      (a ≤ v ∧ v ≤ b ∧ Op.bytesLess (Ky.put v s) (Ky.enc a) = false ∧ (bend b = [] ∨ (bend b ≠ [] ∧ Op.bytesLess (Ky.put v s) (bend b) = true))) ∨
      (a ≤ v ∧ b < v ∧ Op.bytesLess (Ky.put v s) (Ky.enc a) = false ∧ bend b ≠ [] ∧ Op.bytesLess (Ky.put v s) (bend b) = false) := by
    intro _
    have hlo := put_low hv ha s
    by_cases h2 : v < a
    · exact .inl ⟨h2, by rw [hlo]; exact decide_eq_true h2⟩
    · have h3 : Op.bytesLess (Ky.put v s) (Ky.enc a) = false := by rw [hlo]; exact decide_eq_false h2
      by_cases hm : b < 9223372036854775807
      · have hbe : bend b = Ky.enc (b + 1) := by unfold bend; rw [if_pos hm]
        have hhi := put_low hv (a := b + 1) (by unfold Ky.In at *; omega) s
        rw [hbe, hhi]
        by_cases h4 : v ≤ b
        · exact .inr (.inl ⟨by omega, h4, h3, .inr ⟨enc_ne _, decide_eq_true (by omega)⟩⟩)
        · exact .inr (.inr ⟨by omega, by omega, h3, enc_ne _, decide_eq_false (by omega)⟩)
      · have hbe : bend b = [] := by unfold bend; rw [if_neg hm]
        exact .inr (.inl ⟨by omega, by unfold Ky.In at *; omega, h3, .inl hbe⟩)
  have HT := Lib.hid htest
  have HBL : Hid (bend b = [] ∨ bend b ≠ []) := Lib.hid (by by_cases h : bend b = [] <;> simp [h])
  have HEN := Lib.hid (enc_ne (b + 1))
  clear htest
  by_cases hm : b < 9223372036854775807
  · have hbe : bend b = Ky.enc (b + 1) := by unfold bend; rw [if_pos hm]
    have HVb := Lib.hid (refValue8 (b + 1) (by unfold Ky.In at *; omega))
    have eb := str_neq 9 (Ky.enc (b + 1)) (Ky.enc (b + 1))
    rw [beq_self_eq_true] at eb
    rw [hbe] at HBo HT HBL
    have hb2 : -9223372036854775808 ≤ b := hb.1
    have tok1 : True := trivial
    by_cases o1 : okKey s = true
    · have HP := Lib.hid (fun w => put_good v hv s w o1)
      have ht := HT.out o1
      have hne := HEN.out
      clear o1 hv HT HEN
      generalize Ky.enc (b + 1) = B at *
      generalize Ky.enc a = A at *
      generalize Ky.put v s = K at *
      have ege := str_geq 9 K A
      have elt := str_lss 9 K B
      have eqq : binOp .eql 9 (.string ⟨B.toArray⟩) (.string ⟨#[]⟩) = pure (.bool false) := by
        have h := str_eql 9 B []
        rw [beq_eq_false_iff_ne.2 hne] at h
        exact h
      rcases ht with ⟨h2, h3⟩ | ⟨h2, h2', h3, h4 | ⟨_, h4⟩⟩ | ⟨h2, h2', h3, _, h4⟩
      · rw [h3] at ege
        clear h3 elt hne
        have h2n : ¬ a ≤ v := by omega
        go_enter Try.func4, Try.ntmps4
        go_wp2_with (first
          | (go_at_call 14; refine (HBo.out _).mono ?_; rintro e w1 ⟨rfl, hb⟩; have BX := Lib.hid (box_one w v s _ hb); clear hb; have B1 := Lib.hid BX.out.1; have HB1 := Lib.hid BX.out.2; have k0 := B1.out.num; have k1 := B1.out.key)
          | (have _t := tok1; go_at_call 13; with_reducible refine (HVb.out _).mono ?_; rintro e w2 ⟨a2, c2, rfl, hcv2, hb⟩; have B2 := Lib.hid (B1.out.later hb); have HB2 := Lib.hid (HB1.out.trans (hb.mono HB1.out.size)); clear hb k0 k1 tok1)
          | (go_at_call 13; with_reducible refine (HVa.out _).mono ?_; rintro e w3 ⟨a3, c3, rfl, hcv3, hb⟩; have B3 := Lib.hid (B2.out.later hb); have HB3 := Lib.hid (HB2.out.trans (hb.mono HB2.out.size)); clear hb; have k0 := B3.out.num; have k1 := B3.out.key)
          | (go_at_call 10; refine (HP.out _).mono ?_; rintro e w4 ⟨rfl, hb⟩; have B4 := Lib.hid (B3.out.later hb); have HB4 := Lib.hid (HB3.out.trans (hb.mono HB3.out.size)); clear hb k0 k1; have k0 := B4.out.num; have k1 := B4.out.key)
          | (go_at_call 9; refine (awake_any _).mono ?_; rintro e w5 ⟨rfl, hb⟩; have HB5 := Lib.hid (HB4.out.trans (hb.mono HB4.out.size)); clear hb))
        go_ret
        first | exact ⟨rfl, HB5.out⟩ | exact ⟨ret_bool (by simp; omega), HB5.out⟩
      · exact absurd h4 hne
      · rw [h3] at ege
        rw [h4] at elt
        clear h3 h4 hne
        go_enter Try.func4, Try.ntmps4
        go_wp2_with (first
          | (go_at_call 14; refine (HBo.out _).mono ?_; rintro e w1 ⟨rfl, hb⟩; have BX := Lib.hid (box_one w v s _ hb); clear hb; have B1 := Lib.hid BX.out.1; have HB1 := Lib.hid BX.out.2; have k0 := B1.out.num; have k1 := B1.out.key)
          | (have _t := tok1; go_at_call 13; with_reducible refine (HVb.out _).mono ?_; rintro e w2 ⟨a2, c2, rfl, hcv2, hb⟩; have B2 := Lib.hid (B1.out.later hb); have HB2 := Lib.hid (HB1.out.trans (hb.mono HB1.out.size)); clear hb k0 k1 tok1)
          | (go_at_call 13; with_reducible refine (HVa.out _).mono ?_; rintro e w3 ⟨a3, c3, rfl, hcv3, hb⟩; have B3 := Lib.hid (B2.out.later hb); have HB3 := Lib.hid (HB2.out.trans (hb.mono HB2.out.size)); clear hb; have k0 := B3.out.num; have k1 := B3.out.key)
          | (go_at_call 10; refine (HP.out _).mono ?_; rintro e w4 ⟨rfl, hb⟩; have B4 := Lib.hid (B3.out.later hb); have HB4 := Lib.hid (HB3.out.trans (hb.mono HB3.out.size)); clear hb k0 k1; have k0 := B4.out.num; have k1 := B4.out.key)
          | (go_at_call 9; refine (awake_any _).mono ?_; rintro e w5 ⟨rfl, hb⟩; have HB5 := Lib.hid (HB4.out.trans (hb.mono HB4.out.size)); clear hb))
        go_ret
        first | exact ⟨rfl, HB5.out⟩ | exact ⟨ret_bool (by simp; omega), HB5.out⟩
      · rw [h3] at ege
        rw [h4] at elt
        have h2n : ¬ v ≤ b := by omega
        clear h3 h4 hne
        go_enter Try.func4, Try.ntmps4
        go_wp2_with (first
          | (go_at_call 14; refine (HBo.out _).mono ?_; rintro e w1 ⟨rfl, hb⟩; have BX := Lib.hid (box_one w v s _ hb); clear hb; have B1 := Lib.hid BX.out.1; have HB1 := Lib.hid BX.out.2; have k0 := B1.out.num; have k1 := B1.out.key)
          | (have _t := tok1; go_at_call 13; with_reducible refine (HVb.out _).mono ?_; rintro e w2 ⟨a2, c2, rfl, hcv2, hb⟩; have B2 := Lib.hid (B1.out.later hb); have HB2 := Lib.hid (HB1.out.trans (hb.mono HB1.out.size)); clear hb k0 k1 tok1)
          | (go_at_call 13; with_reducible refine (HVa.out _).mono ?_; rintro e w3 ⟨a3, c3, rfl, hcv3, hb⟩; have B3 := Lib.hid (B2.out.later hb); have HB3 := Lib.hid (HB2.out.trans (hb.mono HB2.out.size)); clear hb; have k0 := B3.out.num; have k1 := B3.out.key)
          | (go_at_call 10; refine (HP.out _).mono ?_; rintro e w4 ⟨rfl, hb⟩; have B4 := Lib.hid (B3.out.later hb); have HB4 := Lib.hid (HB3.out.trans (hb.mono HB3.out.size)); clear hb k0 k1; have k0 := B4.out.num; have k1 := B4.out.key)
          | (go_at_call 9; refine (awake_any _).mono ?_; rintro e w5 ⟨rfl, hb⟩; have HB5 := Lib.hid (HB4.out.trans (hb.mono HB4.out.size)); clear hb))
        go_ret
        first | exact ⟨rfl, HB5.out⟩ | exact ⟨ret_bool (by simp; omega), HB5.out⟩
    · have HP := Lib.hid (fun w => put_bad v s w (by simpa using o1))
      clear o1 hv HT HEN
      generalize Ky.enc (b + 1) = B at *
      generalize Ky.enc a = A at *
      go_enter Try.func4, Try.ntmps4
      go_wp2_with (first
        | (go_at_call 14; refine (HBo.out _).mono ?_; rintro e w1 ⟨rfl, hb⟩; have BX := Lib.hid (box_one w v s _ hb); clear hb; have B1 := Lib.hid BX.out.1; have HB1 := Lib.hid BX.out.2; have k0 := B1.out.num; have k1 := B1.out.key)
        | (have _t := tok1; go_at_call 13; with_reducible refine (HVb.out _).mono ?_; rintro e w2 ⟨a2, c2, rfl, hcv2, hb⟩; have B2 := Lib.hid (B1.out.later hb); have HB2 := Lib.hid (HB1.out.trans (hb.mono HB1.out.size)); clear hb k0 k1 tok1)
        | (go_at_call 13; with_reducible refine (HVa.out _).mono ?_; rintro e w3 ⟨a3, c3, rfl, hcv3, hb⟩; have B3 := Lib.hid (B2.out.later hb); have HB3 := Lib.hid (HB2.out.trans (hb.mono HB2.out.size)); clear hb; have k0 := B3.out.num; have k1 := B3.out.key)
        | (go_at_call 10; refine (HP.out _).mono ?_; rintro e w4 ⟨rfl, hb⟩; have B4 := Lib.hid (B3.out.later hb); have HB4 := Lib.hid (HB3.out.trans (hb.mono HB3.out.size)); clear hb k0 k1; have k0 := B4.out.num; have k1 := B4.out.key)
        | (go_at_call 9; refine (awake_any _).mono ?_; rintro e w5 ⟨rfl, hb⟩; have HB5 := Lib.hid (HB4.out.trans (hb.mono HB4.out.size)); clear hb))
      go_ret
      first | exact ⟨rfl, HB5.out⟩ | exact ⟨ret_bool (by simp; omega), HB5.out⟩
  · have hbe : bend b = [] := by unfold bend; rw [if_neg hm]
    have eb : binOp .neq 9 (.string ⟨#[]⟩) (.string ⟨#[]⟩) = pure (.bool false) := by
      have h := str_neq 9 [] []
      rw [beq_self_eq_true] at h
      exact h
    have HBo' : Hid (∀ w, Calls Try.prog 14 #[.int .i64 a, .int .i64 b] w fun e w' => e = .returned (.tuple #[.string ⟨(Ky.enc a).toArray⟩, .string ⟨#[]⟩, .int .i64 0]) ∧ Below w.heap.size w w') := by
      rw [hbe] at HBo
      exact HBo
    rw [hbe] at HT
    clear HBo
    have HBo := HBo'
    have hbm : b ≤ 9223372036854775807 := hb.2
    have hvm : v ≤ 9223372036854775807 := hv.2
    clear ha hb hbe HBL HEN HBo'
    by_cases o1 : okKey s = true
    · have HP := Lib.hid (fun w => put_good v hv s w o1)
      have ht := HT.out o1
      clear o1 hv HT
      generalize Ky.enc a = A at *
      generalize Ky.put v s = K at *
      have ege := str_geq 9 K A
      have eqq : binOp .eql 9 (.string ⟨#[]⟩) (.string ⟨#[]⟩) = pure (.bool true) := by
        have h := str_eql 9 [] []
        rw [beq_self_eq_true] at h
        exact h
      rcases ht with ⟨h2, h3⟩ | ⟨h2, h2', h3, _⟩ | ⟨h2, h2', h3, h5, _⟩
      · rw [h3] at ege
        clear h3
        have h2n : ¬ a ≤ v := by omega
        go_enter Try.func4, Try.ntmps4
        go_wp2_with (first
          | (go_at_call 14; refine (HBo.out _).mono ?_; rintro e w1 ⟨rfl, hb⟩; have BX := Lib.hid (box_one w v s _ hb); clear hb; have B1 := Lib.hid BX.out.1; have HB1 := Lib.hid BX.out.2; have k0 := B1.out.num; have k1 := B1.out.key)
          | (go_at_call 13; with_reducible refine (HVa.out _).mono ?_; rintro e w3 ⟨a3, c3, rfl, hcv3, hb⟩; have B3 := Lib.hid (B1.out.later hb); have HB3 := Lib.hid (HB1.out.trans (hb.mono HB1.out.size)); clear hb k0 k1; have k0 := B3.out.num; have k1 := B3.out.key)
          | (go_at_call 10; refine (HP.out _).mono ?_; rintro e w4 ⟨rfl, hb⟩; have B4 := Lib.hid (B3.out.later hb); have HB4 := Lib.hid (HB3.out.trans (hb.mono HB3.out.size)); clear hb k0 k1; have k0 := B4.out.num; have k1 := B4.out.key)
          | (go_at_call 9; refine (awake_any _).mono ?_; rintro e w5 ⟨rfl, hb⟩; have HB5 := Lib.hid (HB4.out.trans (hb.mono HB4.out.size)); clear hb))
        go_ret
        first | exact ⟨rfl, HB5.out⟩ | exact ⟨ret_bool (by simp; omega), HB5.out⟩
      · rw [h3] at ege
        clear h3
        go_enter Try.func4, Try.ntmps4
        go_wp2_with (first
          | (go_at_call 14; refine (HBo.out _).mono ?_; rintro e w1 ⟨rfl, hb⟩; have BX := Lib.hid (box_one w v s _ hb); clear hb; have B1 := Lib.hid BX.out.1; have HB1 := Lib.hid BX.out.2; have k0 := B1.out.num; have k1 := B1.out.key)
          | (go_at_call 13; with_reducible refine (HVa.out _).mono ?_; rintro e w3 ⟨a3, c3, rfl, hcv3, hb⟩; have B3 := Lib.hid (B1.out.later hb); have HB3 := Lib.hid (HB1.out.trans (hb.mono HB1.out.size)); clear hb k0 k1; have k0 := B3.out.num; have k1 := B3.out.key)
          | (go_at_call 10; refine (HP.out _).mono ?_; rintro e w4 ⟨rfl, hb⟩; have B4 := Lib.hid (B3.out.later hb); have HB4 := Lib.hid (HB3.out.trans (hb.mono HB3.out.size)); clear hb k0 k1; have k0 := B4.out.num; have k1 := B4.out.key)
          | (go_at_call 9; refine (awake_any _).mono ?_; rintro e w5 ⟨rfl, hb⟩; have HB5 := Lib.hid (HB4.out.trans (hb.mono HB4.out.size)); clear hb))
        go_ret
        first | exact ⟨rfl, HB5.out⟩ | exact ⟨ret_bool (by simp; omega), HB5.out⟩
      · exact absurd rfl h5
    · have HP := Lib.hid (fun w => put_bad v s w (by simpa using o1))
      clear o1 hv HT
      generalize Ky.enc a = A at *
      go_enter Try.func4, Try.ntmps4
      go_wp2_with (first
        | (go_at_call 14; refine (HBo.out _).mono ?_; rintro e w1 ⟨rfl, hb⟩; have BX := Lib.hid (box_one w v s _ hb); clear hb; have B1 := Lib.hid BX.out.1; have HB1 := Lib.hid BX.out.2; have k0 := B1.out.num; have k1 := B1.out.key)
        | (go_at_call 13; with_reducible refine (HVa.out _).mono ?_; rintro e w3 ⟨a3, c3, rfl, hcv3, hb⟩; have B3 := Lib.hid (B1.out.later hb); have HB3 := Lib.hid (HB1.out.trans (hb.mono HB1.out.size)); clear hb k0 k1; have k0 := B3.out.num; have k1 := B3.out.key)
        | (go_at_call 10; refine (HP.out _).mono ?_; rintro e w4 ⟨rfl, hb⟩; have B4 := Lib.hid (B3.out.later hb); have HB4 := Lib.hid (HB3.out.trans (hb.mono HB3.out.size)); clear hb k0 k1; have k0 := B4.out.num; have k1 := B4.out.key)
        | (go_at_call 9; refine (awake_any _).mono ?_; rintro e w5 ⟨rfl, hb⟩; have HB5 := Lib.hid (HB4.out.trans (hb.mono HB4.out.size)); clear hb))
      go_ret
      first | exact ⟨rfl, HB5.out⟩ | exact ⟨ret_bool (by simp; omega), HB5.out⟩
end Go.Proofs.Ytakgpljpdcjmfaa
