/- The walks of the laws of package keys: KeysOrder. -/
import Derived.Test.YtakgpljpdcjmfaaKeysWalks4
import Derived.Test.YtakgpljpdcjmfaaKeysWalks5
namespace Go.Proofs.Ytakgpljpdcjmfaa
open Go.RowKit

/-- What a law's walk ends in. -/
def Yes (w : World) (e : Ending) (w' : World) : Prop := e = .returned (.bool true) ∧ Below w.heap.size w w'
/-- An entry that lies in a block. -/
structure Box (w : World) (g : Nat) (v : Int) (s : List UInt8) : Prop where
  num : w.cell? ⟨g, 0, none⟩ = some (.int .i64 v)
  key : w.cell? ⟨g, 1, none⟩ = some (.string ⟨s.toArray⟩)
theorem Box.later {w w' : World} {g : Nat} {v : Int} {s : List UInt8} (h : Box w g v s) (hb : Below w.heap.size w w') : Box w' g v s := ⟨old_cell h.num hb, old_cell h.key hb⟩
theorem Box.made (w : World) (v : Int) (s : List UInt8) (t : TypeId) : Box (w.alloc (.cells #[.int .i64 v, .string ⟨s.toArray⟩] t)) w.heap.size v s := ⟨by simp, by simp⟩
theorem box_two (w : World) (v : Int) (s : List UInt8) (x : Int) (t : List UInt8) (T : TypeId) {w1 : World} (hb : Below ((w.alloc (.cells #[.int .i64 v, .string ⟨s.toArray⟩] T)).alloc (.cells #[.int .i64 x, .string ⟨t.toArray⟩] T)).heap.size ((w.alloc (.cells #[.int .i64 v, .string ⟨s.toArray⟩] T)).alloc (.cells #[.int .i64 x, .string ⟨t.toArray⟩] T)) w1) :
    Box w1 w.heap.size v s ∧ Box w1 (w.heap.size + 1) x t ∧ Below w.heap.size w w1 := by
  have a1 := al1 w (.cells #[.int .i64 v, .string ⟨s.toArray⟩] T)
  have a2 := al1 (w.alloc (.cells #[.int .i64 v, .string ⟨s.toArray⟩] T)) (.cells #[.int .i64 x, .string ⟨t.toArray⟩] T)
  refine ⟨((Box.made w v s T).later a2).later hb, ?_, (a1.trans (a2.mono a1.size)).trans (hb.mono (by simp; omega))⟩
  have := Box.made (w.alloc (.cells #[.int .i64 v, .string ⟨s.toArray⟩] T)) x t T
  have h2 := this.later hb
  simpa using h2
theorem refCompareB (v : Int) (s : List UInt8) (x : Int) (t : List UInt8) (hsl : s.length ≤ 1000000) (w : World) :
    Calls Try.prog 17 #[.int .i64 v, .string ⟨s.toArray⟩, .int .i64 x, .string ⟨t.toArray⟩] w fun e w' => e = .returned (.int .i64 (Ky.cmpE v s x t)) ∧ Below w.heap.size w w' := by
  refine (refCompare v s x t hsl w).mono ?_
  rintro e w' ⟨rfl, n, rfl⟩
  exact ⟨rfl, ⟨rfl, rfl, rfl, Nat.le_refl _, fun _ _ => rfl⟩⟩
/-- What Put answers, whatever the entry. -/
def putS (v : Int) (k : List UInt8) : List UInt8 := if okKey k then Ky.put v k else []
theorem put_any (v : Int) (hv : Ky.In v) (k : List UInt8) (w : World) :
    Calls Try.prog 10 #[.agg #[.int .i64 v, .string ⟨k.toArray⟩]] w fun e w' => e = .returned (.tuple #[.string ⟨(putS v k).toArray⟩, .int .i64 (chk k)]) ∧ Below w.heap.size w w' := by
  by_cases h : okKey k = true
  · have h1 : putS v k = Ky.put v k := by unfold putS; rw [if_pos h]
    have h2 : chk k = 0 := by unfold chk; rw [if_pos h]
    rw [h1, h2]
    exact put_good v hv k w h
  · have h1 : putS v k = [] := by unfold putS; rw [if_neg h]
    have h2 : chk k = 13 := by unfold chk; rw [if_neg h]
    rw [h1, h2]
    exact put_bad v k w (by simpa using h)

set_option maxRecDepth 100000 in
set_option maxHeartbeats 2000000 in
theorem order_walk (v : Int) (s : List UInt8) (x : Int) (t : List UInt8) (hv : Ky.In v) (hx : Ky.In x) (w : World) :
    Calls Try.prog 7 #[entV v s, entV x t] w (Yes w) := by
  by_cases h1 : 100 < s.length
  · clear hv hx
    go_enter Try.func7, Try.ntmps7
    go_wp2_with (go_at_call 9; refine (awake_any _).mono ?_; rintro e w2 ⟨rfl, hb⟩; have HB := Lib.hid (box_two w v s x t _ hb).2.2; clear hb)
    go_ret
    exact ⟨rfl, HB.out⟩
  by_cases h2 : 100 < t.length
  · clear hv hx
    go_enter Try.func7, Try.ntmps7
    go_wp2_with (go_at_call 9; refine (awake_any _).mono ?_; rintro e w2 ⟨rfl, hb⟩; have HB := Lib.hid (box_two w v s x t _ hb).2.2; clear hb)
    go_ret
    exact ⟨rfl, HB.out⟩
  have HR := Lib.hid (refCompareB v s x t (by omega))
  have HC := Lib.hid (compare_any v s x t)
  have HP1 := Lib.hid (put_any v hv s)
  have HP2 := Lib.hid (put_any x hx t)
  have HL := Lib.hid (Ky.put_less hv hx s t)
  have HI := Lib.hid (Ky.put_inj hv hx s t)
  have HZ := Lib.hid (@Ky.cmpE_zero v x s t)
  have HRG := Lib.hid (Ky.cmpE_range v s x t)
  clear hv hx
  generalize Ky.cmpE v s x t = c at *
  have hcc : (c != c) = false := by simp
  by_cases o1 : okKey s = true
  · have c1 : chk s = 0 := by unfold chk; rw [if_pos o1]
    have p1 : putS v s = Ky.put v s := by unfold putS; rw [if_pos o1]
    rw [c1, p1] at HP1
    by_cases o2 : okKey t = true
    · have c2 : chk t = 0 := by unfold chk; rw [if_pos o2]
      have p2 : putS x t = Ky.put x t := by unfold putS; rw [if_pos o2]
      rw [c2, p2] at HP2
      clear c1 p1 c2 p2 o1 o2
      generalize Ky.put v s = P1 at *
      generalize Ky.put x t = P2 at *
      have el := str_lss 9 P1 P2
      have ee := str_eql 9 P1 P2
      have h3 : (c = -1 ∧ Op.bytesLess P1 P2 = true ∧ (P1 == P2) = false) ∨ (c = 0 ∧ Op.bytesLess P1 P2 = false ∧ (P1 == P2) = true) ∨ (c = 1 ∧ Op.bytesLess P1 P2 = false ∧ (P1 == P2) = false) := by
        have hl := HL.out
        have hi := HI.out
        have hz := HZ.out
        rcases HRG.out with rfl | rfl | rfl
        · refine .inl ⟨rfl, hl.trans (by decide), ?_⟩
          rw [beq_eq_false_iff_ne]; intro h; have := hz.2 (hi.1 h); omega
        · refine .inr (.inl ⟨rfl, hl.trans (by decide), ?_⟩)
          rw [beq_iff_eq]; exact hi.2 (hz.1 rfl)
        · refine .inr (.inr ⟨rfl, hl.trans (by decide), ?_⟩)
          rw [beq_eq_false_iff_ne]; intro h; have := hz.2 (hi.1 h); omega
      rcases h3 with ⟨rfl, e1, e2⟩ | ⟨rfl, e1, e2⟩ | ⟨rfl, e1, e2⟩
      all_goals
        rw [e1] at el
        rw [e2] at ee
        clear e1 e2 HL HI HZ HRG
        go_enter Try.func7, Try.ntmps7
        go_wp2_with (first
          | (go_at_call 17; refine (HR.out _).mono ?_; rintro e w1 ⟨rfl, hb⟩; have BX := Lib.hid (box_two w v s x t _ hb); clear hb; have k0 := BX.out.1.num; have k1 := BX.out.1.key; have k2 := BX.out.2.1.num; have k3 := BX.out.2.1.key; have HB1 := Lib.hid BX.out.2.2)
          | (go_at_call 18; refine (HC.out _).mono ?_; rintro e w2 ⟨rfl, hb⟩; have BA := Lib.hid (BX.out.1.later hb); have BB := Lib.hid (BX.out.2.1.later hb); have HB2 := Lib.hid (HB1.out.trans (hb.mono HB1.out.size)); clear hb k0 k1 k2 k3; have k0 := BA.out.num; have k1 := BA.out.key; have k2 := BB.out.num; have k3 := BB.out.key)
          | (go_at_call 10; with_reducible refine (HP1.out _).mono ?_; rintro e w3 ⟨rfl, hb⟩; have BC := Lib.hid (BB.out.later hb); have HB3 := Lib.hid (HB2.out.trans (hb.mono HB2.out.size)); clear hb k0 k1 k2 k3; have k2 := BC.out.num; have k3 := BC.out.key)
          | (go_at_call 10; with_reducible refine (HP2.out _).mono ?_; rintro e w4 ⟨rfl, hb⟩; have HB4 := Lib.hid (HB3.out.trans (hb.mono HB3.out.size)); clear hb k2 k3)
          | (go_at_call 9; refine (awake_any _).mono ?_; rintro e w5 ⟨rfl, hb⟩; have HB5 := Lib.hid (HB4.out.trans (hb.mono HB4.out.size)); clear hb))
        go_ret
        exact ⟨rfl, HB5.out⟩
    · have c2 : chk t = 13 := by unfold chk; rw [if_neg o2]
      rw [c2] at HP2
      clear c1 p1 c2 o1 o2 HL HI HZ HRG
      go_enter Try.func7, Try.ntmps7
      go_wp2_with (first
        | (go_at_call 17; refine (HR.out _).mono ?_; rintro e w1 ⟨rfl, hb⟩; have BX := Lib.hid (box_two w v s x t _ hb); clear hb; have k0 := BX.out.1.num; have k1 := BX.out.1.key; have k2 := BX.out.2.1.num; have k3 := BX.out.2.1.key; have HB1 := Lib.hid BX.out.2.2)
        | (go_at_call 18; refine (HC.out _).mono ?_; rintro e w2 ⟨rfl, hb⟩; have BA := Lib.hid (BX.out.1.later hb); have BB := Lib.hid (BX.out.2.1.later hb); have HB2 := Lib.hid (HB1.out.trans (hb.mono HB1.out.size)); clear hb k0 k1 k2 k3; have k0 := BA.out.num; have k1 := BA.out.key; have k2 := BB.out.num; have k3 := BB.out.key)
        | (go_at_call 10; with_reducible refine (HP1.out _).mono ?_; rintro e w3 ⟨rfl, hb⟩; have BC := Lib.hid (BB.out.later hb); have HB3 := Lib.hid (HB2.out.trans (hb.mono HB2.out.size)); clear hb k0 k1 k2 k3; have k2 := BC.out.num; have k3 := BC.out.key)
        | (go_at_call 10; with_reducible refine (HP2.out _).mono ?_; rintro e w4 ⟨rfl, hb⟩; have HB4 := Lib.hid (HB3.out.trans (hb.mono HB3.out.size)); clear hb k2 k3)
        | (go_at_call 9; refine (awake_any _).mono ?_; rintro e w5 ⟨rfl, hb⟩; have HB5 := Lib.hid (HB4.out.trans (hb.mono HB4.out.size)); clear hb))
      go_ret
      exact ⟨rfl, HB5.out⟩
  · have c1 : chk s = 13 := by unfold chk; rw [if_neg o1]
    rw [c1] at HP1
    clear c1 o1 HL HI HZ HRG
    go_enter Try.func7, Try.ntmps7
    go_wp2_with (first
      | (go_at_call 17; refine (HR.out _).mono ?_; rintro e w1 ⟨rfl, hb⟩; have BX := Lib.hid (box_two w v s x t _ hb); clear hb; have k0 := BX.out.1.num; have k1 := BX.out.1.key; have k2 := BX.out.2.1.num; have k3 := BX.out.2.1.key; have HB1 := Lib.hid BX.out.2.2)
      | (go_at_call 18; refine (HC.out _).mono ?_; rintro e w2 ⟨rfl, hb⟩; have BA := Lib.hid (BX.out.1.later hb); have BB := Lib.hid (BX.out.2.1.later hb); have HB2 := Lib.hid (HB1.out.trans (hb.mono HB1.out.size)); clear hb k0 k1 k2 k3; have k0 := BA.out.num; have k1 := BA.out.key; have k2 := BB.out.num; have k3 := BB.out.key)
      | (go_at_call 10; with_reducible refine (HP1.out _).mono ?_; rintro e w3 ⟨rfl, hb⟩; have BC := Lib.hid (BB.out.later hb); have HB3 := Lib.hid (HB2.out.trans (hb.mono HB2.out.size)); clear hb k0 k1 k2 k3; have k2 := BC.out.num; have k3 := BC.out.key)
      | (go_at_call 10; with_reducible refine (HP2.out _).mono ?_; rintro e w4 ⟨rfl, hb⟩; have HB4 := Lib.hid (HB3.out.trans (hb.mono HB3.out.size)); clear hb k2 k3)
      | (go_at_call 9; refine (awake_any _).mono ?_; rintro e w5 ⟨rfl, hb⟩; have HB5 := Lib.hid (HB4.out.trans (hb.mono HB4.out.size)); clear hb))
    go_ret
    exact ⟨rfl, HB5.out⟩
end Go.Proofs.Ytakgpljpdcjmfaa
