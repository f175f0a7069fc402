/- The walk of 'ProcJoins'. -/
import Derived.Test.YtgoegdlhbadlfaaDoorPr15
import Derived.Test.YtgoegdlhbadlfaaDoorPr19
namespace Go.Proofs.YtgoegdlhbadlfaaDoor
namespace Pc
open Go.RowKit
theorem steps_bounds {l : List OpP} (h : checkP l = 0) : 0 ≤ stepsP l ∧ stepsP l ≤ 10001 := by
  have := stepsL_nonneg (check_lam h).2
  rw [stepsP_eq]
  omega
theorem made_loc {w0 w : World} (hb : Below w0.heap.size w0 w) (vs : List Value) (t : TypeId) (size : Nat) (hl : vs.length = size) (h1 : ∀ u ∈ vs, u.oneCell' = true) :
    Loc size w0 (w.alloc (.cells vs.toArray t)) (some ⟨w.heap.size, 0, none⟩) 1 1 vs := by
  refine ⟨fun k _ => k = w.heap.size, ⟨by omega, Nat.le_refl _, by decide, (fun h => by cases h), h1, fun x hx _ => ?_⟩, fun b o hb => by subst hb; simp, fun b o hb2 => by subst hb2; exact hb.size, hb.alloc hb.size _⟩
  cases hx
  refine ⟨w.heap.size, 0, rfl, fun _ _ => rfl, fun i u hu => ?_, fun i hi => ?_⟩
  · rw [Nat.zero_add]; simp; simpa using hu
  · rw [Nat.zero_add]
    have : i < vs.length := by omega
    simp [this]
set_option maxHeartbeats 4000000 in
set_option maxRecDepth 100000 in
theorem procJoins_walk (a0 : Option Addr) (c0 : Nat) (la : List OpP) (a1 : Option Addr) (c1 : Nat) (lb : List OpP) (t : Int) (W : World) (h0 : Rd W 5 a0 la.length c0 (opsV la)) (h1 : Rd W 5 a1 lb.length c1 (opsV lb)) (hL : Laid W) :
    Calls Tryd.prog 3 #[.slice a0 la.length c0, .slice a1 lb.length c1, .int .i64 t] W (Yes W) := by
  obtain ⟨i0, hi, hz0, hz1, hz2⟩ := info_parts infoOp
  have hG := hL.size
  have HL := Lib.hid hL
  have HA : Hid (∀ V, Below W.heap.size W V → Calls Tryd.prog 5 #[] V (Yes W)) :=
    Lib.hid (fun V hb => (awake_any V (hL.later hb hG)).mono (fun e V' h => ⟨h.1, hb.trans (h.2.mono hb.size)⟩))
  have HR0 := Lib.hid h0
  have HR1 := Lib.hid h1
  have HB0 := Lib.hid (bound_any la a0 c0 W hL h0)
  have HB1 : Hid (∀ V, Below W.heap.size W V → Calls Tryd.prog 6 #[.slice a1 lb.length c1] V fun e V' => e = .returned (.tuple #[.int .i64 (boundP lb), .int .i64 (checkP lb)]) ∧ Below W.heap.size W V') :=
    Lib.hid (fun V hb => (bound_any lb a1 c1 V (hL.later hb hG) (h1.later hb)).mono (fun e V' h => ⟨h.1, hb.trans (h.2.mono hb.size)⟩))
  clear h0 h1 hL
  by_cases g1 : (40 : Int) < (la.length : Int)
  · go_enter Tryd.func3, Tryd.ntmps3
    go_wp2_with (go_at_call 5; refine (HA.out _ (Below.refl _ _)).mono ?_; rintro _ V ⟨rfl, hb⟩)
    go_ret
    exact ⟨rfl, hb⟩
  by_cases g2 : (40 : Int) < (lb.length : Int)
  · go_enter Tryd.func3, Tryd.ntmps3
    go_wp2_with (go_at_call 5; refine (HA.out _ (Below.refl _ _)).mono ?_; rintro _ V ⟨rfl, hb⟩)
    go_ret
    exact ⟨rfl, hb⟩
  by_cases g3 : t < 0
  · go_enter Tryd.func3, Tryd.ntmps3
    go_wp2_with (go_at_call 5; refine (HA.out _ (Below.refl _ _)).mono ?_; rintro _ V ⟨rfl, hb⟩)
    go_ret
    exact ⟨rfl, hb⟩
  by_cases g4 : 16 < t
  · go_enter Tryd.func3, Tryd.ntmps3
    go_wp2_with (go_at_call 5; refine (HA.out _ (Below.refl _ _)).mono ?_; rintro _ V ⟨rfl, hb⟩)
    go_ret
    exact ⟨rfl, hb⟩
  by_cases ea : checkP la = 0
  case neg =>
    obtain ⟨x, hx⟩ : ∃ x, boundP la = x := ⟨_, rfl⟩
    obtain ⟨y, hy⟩ : ∃ y, boundP lb = y := ⟨_, rfl⟩
    obtain ⟨e, he⟩ : ∃ e, checkP la = e := ⟨_, rfl⟩
    obtain ⟨f, hf⟩ : ∃ f, checkP lb = f := ⟨_, rfl⟩
    rw [hx, he] at HB0
    rw [hy, hf] at HB1
    rw [he] at ea
    clear hx hy he hf
    have tok1 : True := trivial
    go_enter Tryd.func3, Tryd.ntmps3
    go_wp2_with (first
      | (have _t := tok1; go_at_call 6; refine HB0.out.mono ?_; rintro _ V1 ⟨rfl, hb⟩; have H1 := Lib.hid hb; clear hb tok1 _t)
      | (go_at_call 6; refine (HB1.out _ H1.out).mono ?_; rintro _ V2 ⟨rfl, hb⟩; have H2 := Lib.hid hb; clear hb)
      | (go_at_call 5; refine (HA.out _ H2.out).mono ?_; rintro _ V ⟨rfl, hb⟩))
    go_ret
    exact ⟨rfl, hb⟩
  by_cases eb : checkP lb = 0
  case neg =>
    obtain ⟨x, hx⟩ : ∃ x, boundP la = x := ⟨_, rfl⟩
    obtain ⟨y, hy⟩ : ∃ y, boundP lb = y := ⟨_, rfl⟩
    obtain ⟨f, hf⟩ : ∃ f, checkP lb = f := ⟨_, rfl⟩
    rw [hx, ea] at HB0
    rw [hy, hf] at HB1
    rw [hf] at eb
    clear hx hy hf ea
    have tok1 : True := trivial
    go_enter Tryd.func3, Tryd.ntmps3
    go_wp2_with (first
      | (have _t := tok1; go_at_call 6; refine HB0.out.mono ?_; rintro _ V1 ⟨rfl, hb⟩; have H1 := Lib.hid hb; clear hb tok1 _t)
      | (go_at_call 6; refine (HB1.out _ H1.out).mono ?_; rintro _ V2 ⟨rfl, hb⟩; have H2 := Lib.hid hb; clear hb)
      | (go_at_call 5; refine (HA.out _ H2.out).mono ?_; rintro _ V ⟨rfl, hb⟩))
    go_ret
    exact ⟨rfl, hb⟩
  have HEA := Lib.hid ea
  have HEB := Lib.hid eb
  have hx1 := steps_bounds ea
  have hy1 := steps_bounds eb
  have bx : boundP la = stepsP la := by unfold boundP; rw [if_pos ea]
  have by_ : boundP lb = stepsP lb := by unfold boundP; rw [if_pos eb]
  rw [bx, ea] at HB0
  rw [by_, eb] at HB1
  clear bx by_ ea eb
  by_cases g5 : 64 < la.length + lb.length
  case pos =>
    have HC : Hid (checkP (la ++ lb) = 23 ∧ boundP (la ++ lb) = 0) := Lib.hid (by
      have : checkP (la ++ lb) = 23 := check_long (by simpa using g5)
      exact ⟨this, by unfold boundP; rw [this]; rfl⟩)
    obtain ⟨n, hn⟩ : ∃ n, la.length + lb.length = n := ⟨_, rfl⟩
    have HN := Lib.hid hn
    have g6 : (64 : Int) < (n : Int) := by omega
    have g7 : n ≤ 80 := by omega
    obtain ⟨x, hx⟩ : ∃ x, stepsP la = x := ⟨_, rfl⟩
    obtain ⟨y, hy⟩ : ∃ y, stepsP lb = y := ⟨_, rfl⟩
    rw [hx] at HB0 hx1
    rw [hy] at HB1 hy1
    have HB2 : Hid (∀ a c V, Below W.heap.size W V → Rd V 5 a n c (opsV (la ++ lb)) → Calls Tryd.prog 6 #[.slice a n c] V fun e V' => e = .returned (.tuple #[.int .i64 0, .int .i64 23]) ∧ Below W.heap.size W V') := Lib.hid (fun a c V hb hr => by
      have hl : (la ++ lb).length = n := by simpa using hn
      rw [← hl] at hr ⊢
      refine (bound_any (la ++ lb) a c V (HL.out.later hb hG) hr).mono (fun e V' h => ⟨?_, hb.trans (h.2.mono hb.size)⟩)
      rw [h.1, HC.out.1, HC.out.2])
    clear hx hy hn g5
    have tok1 : True := trivial
    have tok2 : True := trivial
    have tok3 : True := trivial
    go_enter Tryd.func3, Tryd.ntmps3
    go_wp2_with (first
      | (have _t := tok1; go_at_call 6; refine HB0.out.mono ?_; rintro _ V1 ⟨rfl, hb⟩; have H1 := Lib.hid hb; clear hb tok1 _t)
      | (have _t := tok2; go_at_call 6; refine (HB1.out _ H1.out).mono ?_; rintro _ V2 ⟨rfl, hb⟩; have H2 := Lib.hid hb; clear hb tok2 _t)
      | (have _t := tok3; at_builtin; refine wpList_app_loc rfl (.tmp 51) (.tmp 52) 22 rfl 28 i0 _ 5 40 Tryd.underlying22 hi hz0 hz1 hz2 rfl (by decide) W none 0 0 [] rfl (Loc.start 5 W V2 H2.out) a0 la.length c0 (opsV la) rfl (HR0.out.later H2.out) la.length (opsV la) (Nat.zero_add _) (List.nil_append _) (by unfold maxLen; omega) (by omega) ?_; intro b1 d1 w1 ho; have H3 := Lib.hid ho; clear ho tok3 _t)
      | (at_builtin; refine wpList_app_loc rfl (.tmp 54) (.tmp 55) 22 rfl 28 i0 _ 5 40 Tryd.underlying22 hi hz0 hz1 hz2 rfl (by decide) W b1 la.length d1 (opsV la) rfl H3.out a1 lb.length c1 (opsV lb) rfl (HR1.out.later H3.out.low) n (opsV (la ++ lb)) HN.out (opsV_app _ _).symm (by unfold maxLen; omega) (by omega) ?_; intro b2 d2 w2 ho; have H4 := Lib.hid ho; clear ho)
      | (go_at_call 6; refine (HB2.out _ _ _ H4.out.low H4.out.rd).mono ?_; rintro _ V3 ⟨rfl, hb⟩; have H5 := Lib.hid hb; clear hb)
      | (go_at_call 5; refine (HA.out _ H5.out).mono ?_; rintro _ V ⟨rfl, hb⟩))
    go_ret
    exact ⟨rfl, hb⟩
  case neg =>
    have hsum : (la ++ lb).length ≤ 64 := by rw [List.length_append]; omega
    have HC : Hid (checkP (la ++ lb) = 0 ∧ boundP (la ++ lb) = min 10001 (stepsP la + stepsP lb)) := Lib.hid (by
      have h := check_app HEA.out HEB.out hsum
      exact ⟨h, by unfold boundP; rw [if_pos h]; exact stepsP_app HEA.out HEB.out⟩)
    obtain ⟨n, hn⟩ : ∃ n, la.length + lb.length = n := ⟨_, rfl⟩
    have HN := Lib.hid hn
    have hlen1 : ((la.length + 1 : Nat) : Int) = (loopOp t la.length :: la).length := by simp
    have t0 : 0 ≤ t := by omega
    have t1 : t ≤ 16 := by omega
    obtain ⟨m, h, hmh⟩ : ∃ m h : Int, (boundP (loopOp t la.length :: la) = m ∧ checkP (loopOp t la.length :: la) = h) := ⟨_, _, rfl, rfl⟩
    have HM := Lib.hid hmh
    have hcase : (h = 11 ∧ m = 0) ∨ (h = 0 ∧ m = min 10001 (1 + t * (stepsP la + 1))) := by
      rcases check_loop HEA.out t0 t1 (by omega : la.length ≤ 40) with hc | hc
      · right
        refine ⟨hmh.2.symm.trans hc, hmh.1.symm.trans ?_⟩
        unfold boundP
        rw [if_pos hc, steps_loop]
      · left
        refine ⟨hmh.2.symm.trans hc, hmh.1.symm.trans ?_⟩
        unfold boundP
        rw [hc]; rfl
    obtain ⟨x, hx⟩ : ∃ x, stepsP la = x := ⟨_, rfl⟩
    obtain ⟨y, hy⟩ : ∃ y, stepsP lb = y := ⟨_, rfl⟩
    rw [hx] at HB0 hx1 HC hcase
    rw [hy] at HB1 hy1 HC
    have g6 : ¬ (64 : Int) < (n : Int) := by omega
    have g7 : n ≤ 80 := by omega
    have HB2 : Hid (∀ a c V, Below W.heap.size W V → Rd V 5 a n c (opsV (la ++ lb)) → Calls Tryd.prog 6 #[.slice a n c] V fun e V' => e = .returned (.tuple #[.int .i64 (min 10001 (x + y)), .int .i64 0]) ∧ Below W.heap.size W V') := Lib.hid (fun a c V hb hr => by
      have hl : (la ++ lb).length = n := by simpa using hn
      rw [← hl] at hr ⊢
      refine (bound_any (la ++ lb) a c V (HL.out.later hb hG) hr).mono (fun e V' h => ⟨?_, hb.trans (h.2.mono hb.size)⟩)
      rw [h.1, HC.out.1, HC.out.2])
    have HB3 : Hid (∀ a c V, Below W.heap.size W V → Rd V 5 a (la.length + 1) c (opsV (loopOp t la.length :: la)) → Calls Tryd.prog 6 #[.slice a (la.length + 1) c] V fun e V' => e = .returned (.tuple #[.int .i64 m, .int .i64 h]) ∧ Below W.heap.size W V') := Lib.hid (fun a c V hb hr => by
      have hl : (loopOp t la.length :: la).length = la.length + 1 := rfl
      rw [← hl] at hr ⊢
      refine (bound_any (loopOp t la.length :: la) a c V (HL.out.later hb hG) hr).mono (fun e V' h => ⟨?_, hb.trans (h.2.mono hb.size)⟩)
      rw [h.1, HM.out.1, HM.out.2])
    obtain ⟨s, hs⟩ : ∃ s, min 10001 (x + y) = s := ⟨_, rfl⟩
    have HS := Lib.hid hs
    have hll : la.length ≤ 40 := by omega
    clear hx hy hn g5 hsum hlen1 hmh hs
    rcases hcase with ⟨rfl, rfl⟩ | ⟨rfl, hm⟩
    · have tok1 : True := trivial
      have tok2 : True := trivial
      have tok3 : True := trivial
      have tok4 : True := trivial
      have tok5 : True := trivial
      have tok6 : True := trivial
      go_enter Tryd.func3, Tryd.ntmps3
      go_wp2_with (first
        | (have _t := tok1; go_at_call 6; refine HB0.out.mono ?_; rintro _ V1 ⟨rfl, hb⟩; have H1 := Lib.hid hb; clear hb tok1 _t)
        | (have _t := tok2; go_at_call 6; refine (HB1.out _ H1.out).mono ?_; rintro _ V2 ⟨rfl, hb⟩; have H2 := Lib.hid hb; clear hb tok2 _t)
        | (have _t := tok3; at_builtin; refine wpList_app_loc rfl (.tmp 51) (.tmp 52) 22 rfl 28 i0 _ 5 40 Tryd.underlying22 hi hz0 hz1 hz2 rfl (by decide) W none 0 0 [] rfl (Loc.start 5 W V2 H2.out) a0 la.length c0 (opsV la) rfl (HR0.out.later H2.out) la.length (opsV la) (Nat.zero_add _) (List.nil_append _) (by unfold maxLen; omega) (by omega) ?_; intro b1 d1 w1 ho; have H3 := Lib.hid ho; clear ho tok3 _t)
        | (have _t := tok4; at_builtin; refine wpList_app_loc rfl (.tmp 54) (.tmp 55) 22 rfl 28 i0 _ 5 40 Tryd.underlying22 hi hz0 hz1 hz2 rfl (by decide) W b1 la.length d1 (opsV la) rfl H3.out a1 lb.length c1 (opsV lb) rfl (HR1.out.later H3.out.low) n (opsV (la ++ lb)) HN.out (opsV_app _ _).symm (by unfold maxLen; omega) (by omega) ?_; intro b2 d2 w2 ho; have H4 := Lib.hid ho; clear ho tok4 _t)
        | (have _t := tok5; go_at_call 6; refine (HB2.out _ _ _ H4.out.low H4.out.rd).mono ?_; rintro _ V3 ⟨rfl, hb⟩; have H5 := Lib.hid hb; clear hb tok5 _t)
        | (have _t := tok6; at_builtin; refine wpList_app_loc rfl (.tmp 89) (.tmp 90) 22 rfl 28 i0 _ 5 40 Tryd.underlying22 hi hz0 hz1 hz2 rfl (by decide) W (some ⟨V3.heap.size, 0, none⟩) 1 1 (opV (loopOp t la.length)) rfl (made_loc H5.out (opV (loopOp t la.length)) 28 5 rfl (fun u hu => opsV_one [loopOp t la.length] u (by simpa [opsV] using hu))) a0 la.length c0 (opsV la) rfl ((HR0.out.later H5.out).later (al1 V3 _)) (la.length + 1) (opsV (loopOp t la.length :: la)) (Nat.add_comm _ _) rfl (by unfold maxLen; omega) (by omega) ?_; intro b3 d3 w3 ho; have H6 := Lib.hid ho; clear ho tok6 _t)
        | (go_at_call 6; refine (HB3.out _ _ _ H6.out.low H6.out.rd).mono ?_; rintro _ V4 ⟨rfl, hb⟩; have H7 := Lib.hid hb; clear hb)
        | (go_at_call 5; refine (HA.out _ H7.out).mono ?_; rintro _ V ⟨rfl, hb⟩))
      go_ret
      exact ⟨rfl, hb⟩
    · have hp0 : 0 ≤ t * (x + 1) := Int.mul_nonneg t0 (by omega)
      have hp1 : t * (x + 1) ≤ 16 * 10002 := Int.mul_le_mul t1 (by omega) (by omega) (by decide)
      have tok1 : True := trivial
      have tok2 : True := trivial
      have tok3 : True := trivial
      have tok4 : True := trivial
      have tok5 : True := trivial
      have tok6 : True := trivial
      go_enter Tryd.func3, Tryd.ntmps3
      go_wp2_with (first
        | (have _t := tok1; go_at_call 6; refine HB0.out.mono ?_; rintro _ V1 ⟨rfl, hb⟩; have H1 := Lib.hid hb; clear hb tok1 _t)
        | (have _t := tok2; go_at_call 6; refine (HB1.out _ H1.out).mono ?_; rintro _ V2 ⟨rfl, hb⟩; have H2 := Lib.hid hb; clear hb tok2 _t)
        | (have _t := tok3; at_builtin; refine wpList_app_loc rfl (.tmp 51) (.tmp 52) 22 rfl 28 i0 _ 5 40 Tryd.underlying22 hi hz0 hz1 hz2 rfl (by decide) W none 0 0 [] rfl (Loc.start 5 W V2 H2.out) a0 la.length c0 (opsV la) rfl (HR0.out.later H2.out) la.length (opsV la) (Nat.zero_add _) (List.nil_append _) (by unfold maxLen; omega) (by omega) ?_; intro b1 d1 w1 ho; have H3 := Lib.hid ho; clear ho tok3 _t)
        | (have _t := tok4; at_builtin; refine wpList_app_loc rfl (.tmp 54) (.tmp 55) 22 rfl 28 i0 _ 5 40 Tryd.underlying22 hi hz0 hz1 hz2 rfl (by decide) W b1 la.length d1 (opsV la) rfl H3.out a1 lb.length c1 (opsV lb) rfl (HR1.out.later H3.out.low) n (opsV (la ++ lb)) HN.out (opsV_app _ _).symm (by unfold maxLen; omega) (by omega) ?_; intro b2 d2 w2 ho; have H4 := Lib.hid ho; clear ho tok4 _t)
        | (have _t := tok5; go_at_call 6; refine (HB2.out _ _ _ H4.out.low H4.out.rd).mono ?_; rintro _ V3 ⟨rfl, hb⟩; have H5 := Lib.hid hb; clear hb tok5 _t)
        | (have _t := tok6; at_builtin; refine wpList_app_loc rfl (.tmp 89) (.tmp 90) 22 rfl 28 i0 _ 5 40 Tryd.underlying22 hi hz0 hz1 hz2 rfl (by decide) W (some ⟨V3.heap.size, 0, none⟩) 1 1 (opV (loopOp t la.length)) rfl (made_loc H5.out (opV (loopOp t la.length)) 28 5 rfl (fun u hu => opsV_one [loopOp t la.length] u (by simpa [opsV] using hu))) a0 la.length c0 (opsV la) rfl ((HR0.out.later H5.out).later (al1 V3 _)) (la.length + 1) (opsV (loopOp t la.length :: la)) (Nat.add_comm _ _) rfl (by unfold maxLen; omega) (by omega) ?_; intro b3 d3 w3 ho; have H6 := Lib.hid ho; clear ho tok6 _t)
        | (go_at_call 6; refine (HB3.out _ _ _ H6.out.low H6.out.rd).mono ?_; rintro _ V4 ⟨rfl, hb⟩; have H7 := Lib.hid hb; clear hb)
        | (go_at_call 5; refine (HA.out _ H7.out).mono ?_; rintro _ V ⟨rfl, hb⟩))
      go_ret
      exact ⟨rfl, hb⟩
end Pc
end Go.Proofs.YtgoegdlhbadlfaaDoor
