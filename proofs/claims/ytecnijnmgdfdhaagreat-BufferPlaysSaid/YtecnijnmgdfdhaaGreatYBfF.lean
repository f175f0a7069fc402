/- Joined: Bf13, Bf14, Bf15. -/
import Derived.Test.YtecnijnmgdfdhaaGreatYBfE
namespace Go.Proofs.YtecnijnmgdfdhaaGreat
namespace Bf
open Go.RowKit Tr Tb
open Ky (less)
section
variable {B : Nat} {w0 w V : World} {X Y : List Rs} {bb tb mb rb most o n : Nat} {W L : List Pr}
theorem own_bufMake (tb : Nat) (h : Own B w0 X w) : Calls Tryz.prog 14 #[ptrV tb] w fun e V => ∃ bb, e = .returned (.tuple #[ptrV bb, .int .i64 0]) ∧ Own B w0 (BufR bb tb [] :: X) V := by
 have HO := Lib.hid (own_bufNew h tb 88)
 clear h
 have hmk := run_makeMap (P := Tryz.prog) 86 w
 go_enter Tryz.func14, Tryz.ntmps14
 go_wp2
 go_ret2
 exact ⟨_, rfl, HO.out⟩
theorem own_writes (hW : W.length ≤ 100000) (h : Own B w0 (BufR bb tb W :: X) w) : Calls Tryz.prog 44 #[ptrV bb] w fun e V => ∃ p a c qs, e = .returned (.func (.func 72) #[] #[.pointer (some ⟨p, 0, none⟩)]) ∧
  Own B w0 (CellsR p [.slice a W.length c] :: WsQ a c W qs :: BufR bb tb W :: X) V := by
 have HS := Lib.hid (own_sorted hW h)
 obtain ⟨N, hN⟩ : ∃ N, W.length = N := ⟨_, rfl⟩
 rw [hN] at HS ⊢
 clear h hN
 go_enter Tryz.func44, Tryz.ntmps44
 go_wp2_with (go_at_call 52; refine HS.out.mono ?_; rintro e V ⟨a, c, rfl, hs⟩; obtain ⟨qs, hqs, hs⟩ := own_wsOpen hs; have H2 := Lib.hid (own_cells hs #[.slice a N c] 103); clear hs hqs)
 go_ret
 exact ⟨_, a, c, qs, rfl, H2.out⟩
end
end Bf
end Go.Proofs.YtecnijnmgdfdhaaGreat

namespace Go.Proofs.YtecnijnmgdfdhaaGreat
namespace Bf
open Go.RowKit Tr Tb
open Ky (less)
def eL1 : List Pr := [([97], encT (1, 0, 0, 0))]
def eW1 : List Pr := [([98], wrS (some (2, 0, 0, 0)))]
def eW2 : List Pr := [([97], wrS none), ([98], wrS (some (2, 0, 0, 0)))]
def eL3 : List Pr := [([98], encT (2, 0, 0, 0))]
theorem e_put : putT [97] (1, 0, 0, 0) 9 [] = eL1 := by rfl
theorem e_putW : putW [98] (2, 0, 0, 0) 9 [] eL1 = eW1 := by rfl
theorem e_putC : putE [98] 9 (overT [] eL1) = 0 := by rfl
theorem e_delW : delW [97] eW1 eL1 = eW2 := by rfl
theorem e_len : (overT eW2 eL1).length = 1 := by rfl
theorem e_apE : apE 9 eW2 eL1 = 0 := by rfl
theorem e_apW : apW 9 eW2 eL1 = [] := by rfl
theorem e_apL : apL 9 eW2 eL1 = eL3 := by rfl
theorem e_g1 : getE [97] eL1 = 0 := by rfl
theorem e_g2 : getE [98] eL3 = 0 := by rfl
theorem e_g3 : getE [97] eL3 = 14 := by rfl
theorem e_r1 : getR [97] eL1 = (1, 0, 0, 0) := by show decT (encT (1, 0, 0, 0)) = _; exact decT_encT (ex_in 1 (by decide))
theorem e_r2 : getR [98] eL3 = (2, 0, 0, 0) := by show decT (encT (2, 0, 0, 0)) = _; exact decT_encT (ex_in 2 (by decide))
theorem e_r3 : getR [97] eL3 = (0, 0, 0, 0) := by rfl
set_option maxHeartbeats 4000000 in
set_option maxRecDepth 100000 in
theorem awakeB_any (w : World) : Calls Tryz.prog 12 #[] w fun e V => e = .returned (.bool true) ∧ Below w.heap.size w V := by
 have HN := Lib.hid (own_tabNew 9 2 (by decide) (by decide) (by decide) (Own.nil w))
 have tok1 : True := trivial
 have tok2 : True := trivial
 have HP : Hid (∀ tb V, Own w.heap.size w [TabR tb 9 2 []] V → Calls Tryz.prog 42 #[ptrV tb, .string ⟨#[97]⟩, .agg #[.int .i64 1, .int .i64 0, .int .i64 0, .int .i64 0]] V fun e V => (∃ v, e = .returned v) ∧ Own w.heap.size w [TabR tb 9 2 eL1] V) := Lib.hid (fun tb V h => by
  refine (own_tabPut [97] (1, 0, 0, 0) (ex_in 1 (by decide)) h).mono ?_
  rintro e V ⟨rfl, h⟩
  exact ⟨⟨_, rfl⟩, by rw [← e_put]; exact h⟩)
 have HM := Lib.hid (fun tb V (h : Own w.heap.size w [TabR tb 9 2 eL1] V) => own_bufMake tb h)
 have HB : Hid (∀ bb tb V, Own w.heap.size w [BufR bb tb [], TabR tb 9 2 eL1] V → Calls Tryz.prog 23 #[ptrV bb, .string ⟨#[98]⟩, .agg #[.int .i64 2, .int .i64 0, .int .i64 0, .int .i64 0]] V fun e V => e = .returned (.int .i64 0) ∧ Own w.heap.size w [BufR bb tb eW1, TabR tb 9 2 eL1] V) := Lib.hid (fun bb tb V h => by
  refine (own_bufPut [98] (2, 0, 0, 0) (ex_in 2 (by decide)) (by decide) h).mono ?_
  rintro e V ⟨rfl, h⟩
  rw [e_putW] at h
  exact ⟨by rw [e_putC], h⟩)
 have HD : Hid (∀ bb tb V, Own w.heap.size w [BufR bb tb eW1, TabR tb 9 2 eL1] V → Calls Tryz.prog 24 #[ptrV bb, .string ⟨#[97]⟩] V fun e V => (∃ v, e = .returned v) ∧ Own w.heap.size w [BufR bb tb eW2, TabR tb 9 2 eL1] V) := Lib.hid (fun bb tb V h => by
  refine (own_bufDel [97] (by decide) h).mono ?_
  rintro e V ⟨rfl, h⟩
  rw [e_delW] at h
  exact ⟨⟨_, rfl⟩, h⟩)
 have HL : Hid (∀ bb tb V, Own w.heap.size w [BufR bb tb eW2, TabR tb 9 2 eL1] V → Calls Tryz.prog 17 #[ptrV bb] V fun e V2 => e = .returned (.int .i64 1) ∧ Below V.heap.size V V2) := Lib.hid (fun bb tb V h => by
  have := own_bufLen (by decide) h
  rw [e_len] at this
  exact this)
 have HG1 : Hid (∀ bb tb V, Own w.heap.size w [BufR bb tb eW2, TabR tb 9 2 eL1] V → Calls Tryz.prog 29 #[ptrV tb, .string ⟨#[97]⟩] V fun e V2 => e = .returned (.tuple #[.agg #[.int .i64 1, .int .i64 0, .int .i64 0, .int .i64 0], .int .i64 0]) ∧ Below V.heap.size V V2) := Lib.hid (fun bb tb V h => by
  have := own_tabGet [97] h.swap
  rw [e_r1, e_g1] at this
  exact this)
 have HA : Hid (∀ bb tb V, Own w.heap.size w [BufR bb tb eW2, TabR tb 9 2 eL1] V → Calls Tryz.prog 25 #[ptrV bb] V fun e V => e = .returned (.int .i64 0) ∧ Own w.heap.size w [TabR tb 9 2 eL3] V) := Lib.hid (fun bb tb V h => by
  refine (own_bufApply (by decide) h).mono ?_
  rintro e V ⟨rfl, h⟩
  rw [e_apW, e_apL] at h
  exact ⟨by rw [e_apE], h.drop⟩)
 have HG2 : Hid (∀ tb V, Own w.heap.size w [TabR tb 9 2 eL3] V → Calls Tryz.prog 29 #[ptrV tb, .string ⟨#[98]⟩] V fun e V2 => e = .returned (.tuple #[.agg #[.int .i64 2, .int .i64 0, .int .i64 0, .int .i64 0], .int .i64 0]) ∧ Below V.heap.size V V2) := Lib.hid (fun tb V h => by
  have := own_tabGet [98] h
  rw [e_r2, e_g2] at this
  exact this)
 have HG3 : Hid (∀ tb Y V, Own w.heap.size w (TabR tb 9 2 eL3 :: Y) V → Calls Tryz.prog 29 #[ptrV tb, .string ⟨#[97]⟩] V fun e V2 => e = .returned (.tuple #[.agg #[.int .i64 0, .int .i64 0, .int .i64 0, .int .i64 0], .int .i64 14]) ∧ Below V.heap.size V V2) := Lib.hid (fun tb Y V h => by
  have := own_tabGet [97] h
  rw [e_r3, e_g3] at this
  exact this)
 have hq := Rw.eqlRow 2 0 0 0 2 0 0 0 true (by simp)
 go_enter Tryz.func12, Tryz.ntmps12
 go_wp2_with (first
  | (go_at_call 45; refine HN.out.mono ?_; rintro e V0 ⟨tb, rfl, h0⟩; have H0 := Lib.hid h0; clear h0)
  | (go_at_call 42; refine (HP.out _ _ H0.out).mono ?_; rintro e V1 ⟨⟨v1, rfl⟩, h1⟩; have H1 := Lib.hid h1; clear h1)
  | (go_at_call 14; refine (HM.out _ _ H1.out).mono ?_; rintro e V2 ⟨bb, rfl, h2⟩; have H2 := Lib.hid h2; clear h2)
  | (go_at_call 23; refine (HB.out _ _ _ H2.out).mono ?_; rintro e V3 ⟨rfl, h3⟩; have H3 := Lib.hid h3; clear h3)
  | (go_at_call 24; refine (HD.out _ _ _ H3.out).mono ?_; rintro e V4 ⟨⟨v4, rfl⟩, h4⟩; have H4 := Lib.hid h4; clear h4)
  | (go_at_call 17; refine (HL.out _ _ _ H4.out).mono ?_; rintro e V5 ⟨rfl, h5⟩; have H5 := Lib.hid (H4.out.later h5); clear h5)
  | (go_at_call 29; have _t := tok1; refine (HG1.out _ _ _ H5.out).mono ?_; rintro e V6 ⟨rfl, h6⟩; have H6 := Lib.hid ((H5.out.later h6).later (al1 V6 (.cells #[.int .i64 1, .int .i64 0, .int .i64 0, .int .i64 0] 41))); clear h6 tok1 _t)
  | (go_at_call 25; refine (HA.out _ _ _ H6.out).mono ?_; rintro e V7 ⟨rfl, h7⟩; have H7 := Lib.hid h7; clear h7)
  | (go_at_call 29; have _t := tok2; refine (HG2.out _ _ H7.out).mono ?_; rintro e V8 ⟨rfl, h8⟩; have H8 := Lib.hid ((own_newRow (H7.out.later h8) (2, 0, 0, 0) 41).swap); clear h8 tok2 _t)
  | (go_at_call 29; refine (HG3.out _ _ _ H8.out).mono ?_; rintro e V9 ⟨rfl, h9⟩; have H9 := Lib.hid ((H8.out.later h9).later (al1 V9 (.cells #[.int .i64 0, .int .i64 0, .int .i64 0, .int .i64 0] 41))); obtain ⟨z0, z1, z2, z3⟩ := own_rowM (p := V8.heap.size) (r := (2, 0, 0, 0)) H9.out (by simp); clear h9))
 go_ret
 exact ⟨rfl, H9.out.low⟩
end Bf
end Go.Proofs.YtecnijnmgdfdhaaGreat

namespace Go.Proofs.YtecnijnmgdfdhaaGreat
namespace Bf
open Go.RowKit Tr Tb
open Ky (less)
attribute [local go_sem] Oper.semAt_some
def encQ (q : WQ) : Array Value := #[.string ⟨q.1.1.toArray⟩, ptrO (elC (fun _ => q.2) q.1.1 q.1.2)]
structure WloQ (W : World) (R : Nat → Prop) (J : (Nat → Prop) → List WQ → World → Prop) (K : Nat → Prop) (pre : List WQ) (wr : World) : Prop where
 j : J K pre wr
 lo : ∀ k, K k → W.heap.size ≤ k ∧ k < wr.heap.size
 keep : Fr (fun k _ => ¬ R k) W wr
theorem WloQ.own {W : World} {R : Nat → Prop} {J : (Nat → Prop) → List WQ → World → Prop} {K : Nat → Prop} {pre : List WQ} {wr wr' : World} (h : WloQ W R J K pre wr) (hJ : Clos J) (hb : Below wr.heap.size wr wr') : WloQ W R J (fun k => K k ∨ (wr.heap.size ≤ k ∧ k < wr'.heap.size)) pre wr' := by
 refine ⟨hJ _ _ _ _ _ h.j (Fr.ofBelow hb _) (fun k hk => hk), fun k hk => ?_, h.keep.trans (Fr.ofBelow hb noCells) (fun _ _ h => h.elim)⟩
 rcases hk with hk | hk
 ·have := h.lo k hk; have := hb.size; omega
 ·have := h.keep.size; omega
theorem WloQ.round {W : World} {R : Nat → Prop} {J : (Nat → Prop) → List WQ → World → Prop} {K : Nat → Prop} {pre pre' : List WQ} {wr wr' : World} (h : WloQ W R J K pre wr) (hj : J K pre' wr') (hf : Fr (fun k _ => ¬ K k ∧ ¬ R k) wr wr') : WloQ W R J K pre' wr' :=
 ⟨hj, fun k hk => ⟨(h.lo k hk).1, Nat.lt_of_lt_of_le (h.lo k hk).2 hf.size⟩, h.keep.trans hf (fun _ _ e => .inl e.2)⟩
set_option maxHeartbeats 4000000 in
set_option maxRecDepth 100000 in
theorem writes1_tells (Bx : Nat) (pa : Option Addr) (pc : Nat) (L : List WQ) (R : Nat → Prop) (W : World) (hn : L.length ≤ 900000) (hB : W.cell? ⟨Bx, 0, none⟩ = some (.slice pa L.length pc)) (hr : Rd W 2 pa L.length pc (wsV L)) (_hRB : R Bx) (hRa : L ≠ [] → ∀ x, pa = some x → R x.block) (hR : ∀ k, R k → k < W.heap.size) :
  Tells True Tryz.prog 72 #[.pointer (some ⟨Bx, 0, none⟩)] encQ L R (fun _ => False) W := by
 intro l J Jx hst hJ hJx hY h0
 clear hst
 refine calls_marks Tryz.func72 rfl ?_
 simp only [Tryz.ntmps72, List.size_toArray, List.length_cons, List.length_nil, Nat.reduceAdd, Nat.reduceSub, Array.replicate_succ, Array.replicate_zero, List.push_toArray, List.append_toArray, List.nil_append, List.cons_append]
 obtain ⟨n, hnn⟩ : ∃ n, L.length = n := ⟨_, rfl⟩
 have HN := Lib.hid hnn
 rw [hnn] at hn hB
 have H0 : Hid (WloQ W R J (fun _ => False) (L.take 0) W) := Lib.hid ⟨by simpa using h0, fun _ h => h.elim, Fr.refl _ _⟩
 have HY := Lib.hid hY
 have HD := Lib.hid (And.intro hr (And.intro hRa hR))
 have HS := Lib.hid (And.intro True.intro (And.intro hJ hJx))
 clear hJ hJx hY h0 hr hRa hR hnn
 gi_wp2
 refine wpIn_wide.2 (wp_loop_ghost_k (fun N a wr => ∃ (i : Nat) (K : Nat → Prop), i + N = n ∧ lFrame l Bx pa n pc i a ∧ Hid (WloQ W R J K (L.take i) wr)) n ⟨0, _, by omega, ⟨_, _, _, _, _, _, _, _, _, _, _, _, _, _, rfl⟩, H0⟩ ?round)
 case round =>
  intro N a wr hrel J' K' hJ' hK'
  refine (wpIn_wide (n := 3)).1 ?_
  obtain ⟨i, K, hi, ⟨u2, u3, u4, u8, u9, u10, u11, u12, u13, u14, u15, u16, u17, u18, rfl⟩, HB⟩ := hrel
  cases N with
  | zero =>
   obtain rfl : i = n := by omega
   clear hi
   gi_wp2
   refine leave_none ⟨_, results_none rfl _ _ _, ⟨_, rfl⟩, K, fun k h => h.elim, .inl ?_⟩
   have := HB.out.j
   rwa [List.take_of_length_le (by rw [HN.out]; exact Nat.le_refl _)] at this
  | succ N =>
   have hlt : i < n := by omega
   obtain ⟨p, hp⟩ : ∃ p, L[i]? = some p := ⟨_, List.getElem?_eq_getElem (by rw [HN.out]; exact hlt)⟩
   have g1 : (i : Int) < (n : Int) := by omega
   have g3 : (0 : Int) ≤ (i : Int) := by omega
   have hLn : L.length = n := HN.out
   obtain ⟨pb, po, rfl, q1⟩ := HD.out.1.addr (by intro e; have := wsV_len L; rw [e] at this; simp at this; omega)
   obtain ⟨q2, q3⟩ := wsV_get hp
   have q4 := q1 _ _ q2
   have q5 := q1 _ _ q3
   have hRp := HD.out.2.1 (by rintro rfl; simp at hp) _ rfl
   have p1 : wr.cell? ⟨pb, po + i * 2, none⟩ = some (.string ⟨p.1.1.toArray⟩) := cell_fr HB.out.keep q4 (fun h => h hRp)
   have p2 : wr.cell? ⟨pb, po + i * 2 + 1, none⟩ = some (ptrO (elC (fun _ => p.2) p.1.1 p.1.2)) := cell_fr HB.out.keep (by rw [Nat.add_assoc]; exact q5) (fun h => h hRp)
   have HP := Lib.hid hp
   clear q1 q2 q3 q4 q5 hLn hp
   obtain ⟨⟨ky, v⟩, m⟩ := p
   cases v with
   | nil =>
    simp only [elC, ptrO, Option.map_none] at p2
    have hw5 := HB.out.own HS.out.2.1 (al1 wr (.cells #[.string ⟨ky.toArray⟩, .pointer none] 106))
    obtain ⟨K2, hK2⟩ : ∃ K2 : Nat → Prop, K2 = fun k => K k ∨ (wr.heap.size ≤ k ∧ k < (wr.alloc (.cells #[.string ⟨ky.toArray⟩, .pointer none] 106)).heap.size) := ⟨_, rfl⟩
    rw [← hK2] at hw5
    obtain ⟨fn, tm, as_, bd, hy, hRd⟩ := HY.out K2 (L.take i) ((ky, []), m) (L.drop (i + 1)) _ (by
     have h := HP.out
     obtain ⟨h1, h2⟩ := List.getElem?_eq_some_iff.1 h
     rw [← h2, ← List.drop_eq_getElem_cons h1, List.take_append_drop]) (fun k h => h.elim) hw5.j 2
    simp only [encQ, elC, ptrO, Option.map_none, Option.map_some] at hy
    have HRd : Hid (RoundIn Fence.wide 2 Tryz.prog l fn tm as_ bd (wr.alloc (.cells #[.string ⟨ky.toArray⟩, .pointer none] 106)) fun e W' => (e = .returned (.bool true) ∧ Hid (WloQ W R J K2 (L.take (i + 1)) W')) ∨ (e = .returned (.bool false) ∧ Hid (Jx K2 (L.take i ++ [((ky, []), m)]) W'))) := Lib.hid (hRd.mono (fun e W' ⟨hfr, hc⟩ => by
     rcases hc with ⟨rfl, hj⟩ | ⟨rfl, hjx⟩
     ·refine .inl ⟨rfl, Lib.hid (hw5.round ?_ hfr)⟩
      rw [List.take_add_one, HP.out]; exact hj
     ·exact .inr ⟨rfl, Lib.hid hjx⟩))
    clear hRd hw5 hK2
    gi_wp2
    refine HRd.out.mono ?_
    rintro e W2 (⟨rfl, HW2⟩ | ⟨rfl, HW2⟩)
    ·gi_wp2
     have e1 : (i : Int) + 1 = ((i + 1 : Nat) : Int) := by omega
     rw [e1]
     exact Handed.intro N (by omega) (hJ' _ _ _ ⟨i + 1, K2, by omega, ⟨_, _, _, _, _, _, _, _, _, _, _, _, _, _, rfl⟩, HW2⟩)
    ·gi_wp2
     refine leave_none ⟨_, results_none rfl _ _ _, ⟨_, rfl⟩, K2, fun k h => h.elim, .inr ⟨L.take i, ((ky, []), m), L.drop (i + 1), ?_, HW2.out⟩⟩
     obtain ⟨h1, h2⟩ := List.getElem?_eq_some_iff.1 HP.out
     rw [← h2, ← List.drop_eq_getElem_cons h1, List.take_append_drop]
   | cons b s =>
    simp only [elC, ptrO, Option.map_some] at p2
    have hw5 := HB.out.own HS.out.2.1 (al1 wr (.cells #[.string ⟨ky.toArray⟩, ptrV m] 106))
    obtain ⟨K2, hK2⟩ : ∃ K2 : Nat → Prop, K2 = fun k => K k ∨ (wr.heap.size ≤ k ∧ k < (wr.alloc (.cells #[.string ⟨ky.toArray⟩, ptrV m] 106)).heap.size) := ⟨_, rfl⟩
    rw [← hK2] at hw5
    obtain ⟨fn, tm, as_, bd, hy, hRd⟩ := HY.out K2 (L.take i) ((ky, b :: s), m) (L.drop (i + 1)) _ (by
     have h := HP.out
     obtain ⟨h1, h2⟩ := List.getElem?_eq_some_iff.1 h
     rw [← h2, ← List.drop_eq_getElem_cons h1, List.take_append_drop]) (fun k h => h.elim) hw5.j 2
    simp only [encQ, elC, ptrO, Option.map_none, Option.map_some] at hy
    have HRd : Hid (RoundIn Fence.wide 2 Tryz.prog l fn tm as_ bd (wr.alloc (.cells #[.string ⟨ky.toArray⟩, ptrV m] 106)) fun e W' => (e = .returned (.bool true) ∧ Hid (WloQ W R J K2 (L.take (i + 1)) W')) ∨ (e = .returned (.bool false) ∧ Hid (Jx K2 (L.take i ++ [((ky, b :: s), m)]) W'))) := Lib.hid (hRd.mono (fun e W' ⟨hfr, hc⟩ => by
     rcases hc with ⟨rfl, hj⟩ | ⟨rfl, hjx⟩
     ·refine .inl ⟨rfl, Lib.hid (hw5.round ?_ hfr)⟩
      rw [List.take_add_one, HP.out]; exact hj
     ·exact .inr ⟨rfl, Lib.hid hjx⟩))
    clear hRd hw5 hK2
    gi_wp2
    refine HRd.out.mono ?_
    rintro e W2 (⟨rfl, HW2⟩ | ⟨rfl, HW2⟩)
    ·gi_wp2
     have e1 : (i : Int) + 1 = ((i + 1 : Nat) : Int) := by omega
     rw [e1]
     exact Handed.intro N (by omega) (hJ' _ _ _ ⟨i + 1, K2, by omega, ⟨_, _, _, _, _, _, _, _, _, _, _, _, _, _, rfl⟩, HW2⟩)
    ·gi_wp2
     refine leave_none ⟨_, results_none rfl _ _ _, ⟨_, rfl⟩, K2, fun k h => h.elim, .inr ⟨L.take i, ((ky, b :: s), m), L.drop (i + 1), ?_, HW2.out⟩⟩
     obtain ⟨h1, h2⟩ := List.getElem?_eq_some_iff.1 HP.out
     rw [← h2, ← List.drop_eq_getElem_cons h1, List.take_append_drop]
end Bf
end Go.Proofs.YtecnijnmgdfdhaaGreat
