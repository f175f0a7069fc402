/- The walk of 'ProcBack'. -/
import Derived.Test.YtgoegdlhbadlfaaDoorPr19
import Derived.Test.YtgoegdlhbadlfaaDoorPr20
namespace Go.Proofs.YtgoegdlhbadlfaaDoor
namespace Pc
open Go.RowKit
set_option maxHeartbeats 4000000 in
set_option maxRecDepth 100000 in
theorem procBack_walk (a0 : Option Addr) (c0 : Nat) (l : List OpP) (s : Str) (W : World) (h0 : Rd W 5 a0 l.length c0 (opsV l)) (hL : Laid W) :
    Calls Tryd.prog 4 #[.slice a0 l.length c0, .string ⟨s.toArray⟩] W (Yes W) := by
  have hG := hL.size
  have HA : Hid (∀ V, Below W.heap.size W V → Calls Tryd.prog 5 #[] V (Yes W)) :=
    Lib.hid (fun V hb => (awake_any V (hL.later hb hG)).mono (fun e V' h => ⟨h.1, hb.trans (h.2.mono hb.size)⟩))
  have hsz : (⟨s.toArray⟩ : ByteArray).size = s.length := by show s.toArray.size = _; simp
  by_cases g1 : (80 : Int) < (l.length : Int)
  · clear h0 hL
    go_enter Tryd.func4, Tryd.ntmps4
    go_wp2_with (go_at_call 5; refine (HA.out _ (Below.refl _ _)).mono ?_; rintro _ V ⟨rfl, hb⟩)
    go_ret
    exact ⟨rfl, hb⟩
  by_cases g2 : (2000 : Int) < (s.length : Int)
  · clear h0 hL
    go_enter Tryd.func4, Tryd.ntmps4
    go_wp2_with (go_at_call 5; refine (HA.out _ (Below.refl _ _)).mono ?_; rintro _ V ⟨rfl, hb⟩)
    go_ret
    exact ⟨rfl, hb⟩
  have HT1 := Lib.hid (text_any l a0 c0 W hL h0)
  obtain ⟨T, hT⟩ : ∃ T, textR l = T := ⟨_, rfl⟩
  obtain ⟨e1, he1⟩ : ∃ e1, checkP l = e1 := ⟨_, rfl⟩
  rw [hT, he1] at HT1
  have HP1 : Hid (e1 = 0 → ∀ V, Below W.heap.size W V → Calls Tryd.prog 8 #[.string ⟨T.toArray⟩] V fun e V' => ∃ a c, e = .returned (.tuple #[.slice a l.length c, .int .i64 0, .int .i64 0]) ∧ Rd V' 5 a l.length c (opsV l) ∧ Below W.heap.size W V') := Lib.hid (fun h V hb => by
    have hc : checkP l = 0 := he1.trans h
    have hTt : T = textP l := by rw [← hT]; unfold textR; rw [if_pos hc]
    have hlen : (textP l).length ≤ 1000000 := by
      have h1 := text_len (l := l) (fun y hy => ⟨List.all_eq_true.1 (check_ok hc).2.1 y hy, List.all_eq_true.1 (check_ok hc).2.2.1 y hy⟩)
      have h2 := (check_ok hc).1
      omega
    have := parseAll_any (textP l) hlen V (hL.later hb hG)
    rw [res_text hc] at this
    rw [hTt]
    exact this.mono (fun e V' ⟨a, c, k1, k2, k3⟩ => ⟨a, c, k1, k2, hb.trans (k3.mono hb.size)⟩))
  have hl1 : l.length ≤ 1000000 := by omega
  have HS1 : Hid (∀ V a c, Below W.heap.size W V → Rd V 5 a l.length c (opsV l) → Calls Tryd.prog 9 #[.slice a l.length c, .slice a0 l.length c0] V (Yes W)) :=
    Lib.hid (fun V a c hb hr => (lawSame_true a c a0 c0 l hl1 V hr (h0.later hb)).mono (fun e V' h => ⟨h.1, hb.trans (h.2.mono hb.size)⟩))
  obtain ⟨L, n, e2, hres⟩ : ∃ L n e2, resP s = (L, n, e2) := ⟨_, _, _, rfl⟩
  have hs1 : s.length ≤ 1000000 := by omega
  have HP2 : Hid (∀ V, Below W.heap.size W V → Calls Tryd.prog 8 #[.string ⟨s.toArray⟩] V fun e V' => ∃ a c, e = .returned (.tuple #[.slice a L.length c, .int .i64 n, .int .i64 e2]) ∧ Rd V' 5 a L.length c (opsV L) ∧ Below W.heap.size W V') := Lib.hid (fun V hb => by
    have := parseAll_any s hs1 V (hL.later hb hG)
    rw [hres] at this
    exact this.mono (fun e V' ⟨a, c, k1, k2, k3⟩ => ⟨a, c, k1, k2, hb.trans (k3.mono hb.size)⟩))
  have HT2 : Hid (e2 = 0 → ∀ V a c, Below W.heap.size W V → Rd V 5 a L.length c (opsV L) → Calls Tryd.prog 7 #[.slice a L.length c] V fun e V' => e = .returned (.tuple #[.string ⟨s.toArray⟩, .int .i64 0]) ∧ Rd V' 5 a L.length c (opsV L) ∧ Below W.heap.size W V') := Lib.hid (fun h V a c hb hr => by
    have := text_res (s := s) (by rw [hres]; exact h)
    rw [hres] at this
    have hh := text_any L a c V (hL.later hb hG) hr
    rw [show textR L = s by unfold textR; rw [if_pos this.2.1]; exact this.1, this.2.1] at hh
    exact hh.mono (fun e V' h => ⟨h.1, hr.later h.2, hb.trans (h.2.mono hb.size)⟩))
  have HC2 : Hid (e2 = 0 → ∀ V a c, Below W.heap.size W V → Rd V 5 a L.length c (opsV L) → Calls Tryd.prog 10 #[.slice a L.length c] V fun e V' => e = .returned (.int .i64 0) ∧ Below W.heap.size W V') := Lib.hid (fun h V a c hb hr => by
    have := text_res (s := s) (by rw [hres]; exact h)
    rw [hres] at this
    have hh := check_any L a c V (hL.later hb hG) hr
    rw [this.2.1] at hh
    exact hh.mono (fun e V' h => ⟨h.1, hb.trans (h.2.mono hb.size)⟩))
  have HN2 : Hid (e2 ≠ 0 → L = []) := Lib.hid (fun h => by
    have := res_bad (s := s) (by rw [hres]; exact h)
    rwa [hres] at this)
  have hq := fun t => str_eql t s s
  rw [show (s == s) = true from beq_self_eq_true s] at hq
  clear h0 hL hT he1 hres
  by_cases k1 : e1 = 0
  · subst k1; replace HP1 := Lib.hid (HP1.out rfl)
    by_cases k2 : e2 = 0
    · subst k2; replace HT2 := Lib.hid (HT2.out rfl); replace HC2 := Lib.hid (HC2.out rfl)
      have tok1 : True := trivial
      have tok2 : True := trivial
      go_enter Tryd.func4, Tryd.ntmps4
      go_wp2_with (first
        | (have _t := tok1; go_at_call 7; refine HT1.out.mono ?_; rintro _ V1 ⟨rfl, hb⟩; have H1 := Lib.hid hb; clear hb tok1 _t)
        | (have _t := tok2; go_at_call 8; refine (HP1.out _ H1.out).mono ?_; rintro _ V2 ⟨a2, c2, rfl, hr, hb⟩; have H2 := Lib.hid (And.intro hr hb); clear hr hb tok2 _t)
        | (go_at_call 9; refine (HS1.out _ _ _ H2.out.2 H2.out.1).mono ?_; rintro _ V3 ⟨rfl, hb⟩; have H3 := Lib.hid hb; clear hb)
        | (go_at_call 8; refine (HP2.out _ H3.out).mono ?_; rintro _ V4 ⟨a4, c4, rfl, hr, hb⟩; have H4 := Lib.hid (And.intro hr hb); clear hr hb)
        | (go_at_call 7; refine (HT2.out _ _ _ H4.out.2 H4.out.1).mono ?_; rintro _ V5 ⟨rfl, hr, hb⟩; have H5 := Lib.hid (And.intro hr hb); clear hr hb)
        | (go_at_call 10; refine (HC2.out _ _ _ H5.out.2 H5.out.1).mono ?_; rintro _ V6 ⟨rfl, hb⟩; have H6 := Lib.hid hb; clear hb)
        | (go_at_call 5; refine (HA.out _ H6.out).mono ?_; rintro _ V ⟨rfl, hb⟩))
      go_ret
      exact ⟨rfl, hb⟩
    · obtain rfl := HN2.out k2
      have tok1 : True := trivial
      have tok2 : True := trivial
      go_enter Tryd.func4, Tryd.ntmps4
      go_wp2_with (first
        | (have _t := tok1; go_at_call 7; refine HT1.out.mono ?_; rintro _ V1 ⟨rfl, hb⟩; have H1 := Lib.hid hb; clear hb tok1 _t)
        | (have _t := tok2; go_at_call 8; refine (HP1.out _ H1.out).mono ?_; rintro _ V2 ⟨a2, c2, rfl, hr, hb⟩; have H2 := Lib.hid (And.intro hr hb); clear hr hb tok2 _t)
        | (go_at_call 9; refine (HS1.out _ _ _ H2.out.2 H2.out.1).mono ?_; rintro _ V3 ⟨rfl, hb⟩; have H3 := Lib.hid hb; clear hb)
        | (go_at_call 8; refine (HP2.out _ H3.out).mono ?_; rintro _ V4 ⟨a4, c4, rfl, hr, hb⟩; have H4 := Lib.hid (And.intro hr hb); clear hr hb)
        | (go_at_call 5; refine (HA.out _ H4.out.2).mono ?_; rintro _ V ⟨rfl, hb⟩))
      go_ret
      exact ⟨rfl, hb⟩
  · clear HP1 HS1
    by_cases k2 : e2 = 0
    · subst k2; replace HT2 := Lib.hid (HT2.out rfl); replace HC2 := Lib.hid (HC2.out rfl)
      have tok1 : True := trivial
      have tok2 : True := trivial
      go_enter Tryd.func4, Tryd.ntmps4
      go_wp2_with (first
        | (have _t := tok1; go_at_call 7; refine HT1.out.mono ?_; rintro _ V1 ⟨rfl, hb⟩; have H1 := Lib.hid hb; clear hb tok1 _t)
        | (go_at_call 8; refine (HP2.out _ H1.out).mono ?_; rintro _ V4 ⟨a4, c4, rfl, hr, hb⟩; have H4 := Lib.hid (And.intro hr hb); clear hr hb)
        | (go_at_call 7; refine (HT2.out _ _ _ H4.out.2 H4.out.1).mono ?_; rintro _ V5 ⟨rfl, hr, hb⟩; have H5 := Lib.hid (And.intro hr hb); clear hr hb)
        | (go_at_call 10; refine (HC2.out _ _ _ H5.out.2 H5.out.1).mono ?_; rintro _ V6 ⟨rfl, hb⟩; have H6 := Lib.hid hb; clear hb)
        | (go_at_call 5; refine (HA.out _ H6.out).mono ?_; rintro _ V ⟨rfl, hb⟩))
      go_ret
      exact ⟨rfl, hb⟩
    · obtain rfl := HN2.out k2
      have tok1 : True := trivial
      have tok2 : True := trivial
      go_enter Tryd.func4, Tryd.ntmps4
      go_wp2_with (first
        | (have _t := tok1; go_at_call 7; refine HT1.out.mono ?_; rintro _ V1 ⟨rfl, hb⟩; have H1 := Lib.hid hb; clear hb tok1 _t)
        | (go_at_call 8; refine (HP2.out _ H1.out).mono ?_; rintro _ V4 ⟨a4, c4, rfl, hr, hb⟩; have H4 := Lib.hid (And.intro hr hb); clear hr hb)
        | (go_at_call 5; refine (HA.out _ H4.out.2).mono ?_; rintro _ V ⟨rfl, hb⟩))
      go_ret
      exact ⟨rfl, hb⟩
end Pc
end Go.Proofs.YtgoegdlhbadlfaaDoor
