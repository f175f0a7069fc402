/- Joined: Law27. -/
import Derived.Test.YtbempjkkohjnbaaYLaw26
/- The laws of package cursor: CursorMoves. -/
namespace Go.Proofs.Ytbempjkkohjnbaa
open Go.RowKit Tr
open Ky (less)
section
variable {B : Nat} {w0 w : World} {X X' : List Rs} {b o r c : Nat} {L : List Pr} {s t a at_ : Str} {td : Bool}
theorem own_lst (h : Own B w0 (LstR r L :: X) w) {k : Nat} {p : Pr} (hp : L[k]? = some p) : ∃ pb po lc, w.cell? ⟨r, 0, none⟩ = some (.slice (some ⟨pb, po, none⟩) L.length lc) ∧ w.cell? ⟨pb, po + k * 2, none⟩ = some (.string ⟨p.1.toArray⟩) ∧ w.cell? ⟨pb, po + k * 2 + 1, none⟩ = some (.string ⟨p.2.toArray⟩) := by
  obtain ⟨F1, ⟨F, a, c, hl, rfl⟩, _, _⟩ := h.open1
  obtain ⟨pb, po, rfl, h1, h2⟩ := hl.pair hp
  exact ⟨pb, po, c, hl.c0, h1, h2⟩
theorem own_nextD (h : Own B w0 (LstR r L :: X) w) (hn : L.length ≤ 100000) (ha : less a s = false) :
    Calls Try.prog 40 #[ptrV r, .agg #[.string ⟨s.toArray⟩, .string ⟨t.toArray⟩], .string ⟨a.toArray⟩, .bool td] w fun e V => ((e = .returned (.int .i64 (-1)) ∧ Tr.rng (atN a td) t L = []) ∨ ∃ (k : Nat) (p : Pr), e = .returned (.int .i64 k) ∧ L[k]? = some p ∧ ∃ rest, Tr.rng (atN a td) t L = p :: rest) ∧ Below w.heap.size w V := by
  obtain ⟨F1, ⟨F, la, lc, hl, rfl⟩, _, _⟩ := h.open1
  refine (nextD_any r F la lc L s t a td hn w hl).mono ?_
  rintro e V ⟨n, rfl, h1, h2⟩
  rcases next_same ha h1 with ⟨rfl, h3⟩ | ⟨k, p, rfl, h3, h4⟩
  · exact ⟨.inl ⟨rfl, h3⟩, h2⟩
  · exact ⟨.inr ⟨k, p, rfl, h3, h4⟩, h2⟩
theorem rot1 {A T D Q : Rs} : [A, T, D, Q].Perm [T, D, Q, A] := List.perm_append_comm (l₁ := [A]) (l₂ := [T, D, Q])
theorem rotQ {A T D Q : Rs} : [A, T, D, Q].Perm [Q, A, T, D] := List.perm_append_singleton Q [A, T, D]
theorem Own.drop4 {A T D Q : Rs} (h : Own B w0 [A, T, D, Q] w) : Own B w0 [A, T, D] w := (h.perm rotQ).drop
end
set_option maxHeartbeats 8000000 in
set_option maxRecDepth 100000 in
theorem cursorMoves_walk (a : Option Addr) (c : Nat) (l : List TOp) (s t : Str) (ma : Option Addr) (mc : Nat) (m : List MOp) (w : World) (hr : Rd w 3 a l.length c (topsV l)) (hok : ∀ x ∈ l, OkTop x) (hrm : Rd w 4 ma m.length mc (movesV m)) (_hokm : ∀ x ∈ m, OkMove x) :
    Calls Try.prog 12 #[.slice a l.length c, .agg #[.string ⟨s.toArray⟩, .string ⟨t.toArray⟩], .slice ma m.length mc] w (Yes w) := by
  have hcap := hr.cap
  have hle := hr.le
  unfold maxLen at hcap
  have HA := Lib.hid (fun W => awake5_any W)
  obtain ⟨W, hW⟩ : ∃ W, w.alloc (.cells #[.string ⟨s.toArray⟩, .string ⟨t.toArray⟩] 67) = W := ⟨_, rfl⟩
  have hbW : Below w.heap.size w W := by rw [← hW]; exact al1 w _
  have x0 : W.cell? ⟨w.heap.size, 0, none⟩ = some (.string ⟨s.toArray⟩) := by rw [← hW]; simp
  have x1 : W.cell? ⟨w.heap.size, 1, none⟩ = some (.string ⟨t.toArray⟩) := by rw [← hW]; simp
  have HX : Hid (∀ V, Below W.heap.size W V → V.cell? ⟨w.heap.size, 0, none⟩ = some (.string ⟨s.toArray⟩) ∧ V.cell? ⟨w.heap.size, 1, none⟩ = some (.string ⟨t.toArray⟩)) := Lib.hid (fun V hb => ⟨old_cell x0 hb, old_cell x1 hb⟩)
  have HFin : Hid (∀ V, Below W.heap.size W V → Below w.heap.size w V) := Lib.hid (fun V h => hbW.trans (h.mono hbW.size))
  have HRM : Hid (∀ V, Below W.heap.size W V → Rd V 4 ma m.length mc (movesV m)) := Lib.hid (fun V h => (hrm.later hbW).later h)
  have HF := Lib.hid (fun V (h : Below W.heap.size W V) => few_any a c l (by omega) hok V ((hr.later hbW).later h))
  have HSh := Lib.hid (fun V => short_any s t V)
  obtain ⟨M, hM⟩ : ∃ M, m.length = M := ⟨_, rfl⟩
  have HMl := Lib.hid hM
  rw [hM] at HRM ⊢
  clear hrm _hokm hM
  by_cases hf : fewL l
  case neg =>
    have hff : decide (fewL l) = false := by simpa using hf
    rw [hff] at HF
    clear hr hok hf hff hbW
    go_enter Try.func12, Try.ntmps12
    go_wp2_with (first
      | (go_at_call 29; refine (HF.out _ (Below.refl _ _)).mono ?_; rintro e V ⟨rfl, rfl⟩)
      | (go_at_call 35; refine (HSh.out _).mono ?_; rintro e V1 ⟨rfl, hb⟩; have H1 := Lib.hid hb; obtain ⟨d0, d1⟩ := HX.out _ hb; clear hb)
      | (go_at_call 24; refine (HA.out _).mono ?_; rintro e V9 ⟨rfl, hb⟩; have HB := Lib.hid hb; clear hb))
    go_ret
    exact ⟨rfl, HFin.out _ (HB.out)⟩
  have hff : decide (fewL l) = true := by simpa using hf
  have hl := hf.2
  rw [hff] at HF
  by_cases hsh : s.length ≤ 300 ∧ t.length ≤ 300
  case neg =>
    rw [decide_eq_false hsh] at HSh
    clear hr hok hf hff hbW hsh
    go_enter Try.func12, Try.ntmps12
    go_wp2_with (first
      | (go_at_call 29; refine (HF.out _ (Below.refl _ _)).mono ?_; rintro e V ⟨rfl, rfl⟩)
      | (go_at_call 35; refine (HSh.out _).mono ?_; rintro e V1 ⟨rfl, hb⟩; have H1 := Lib.hid hb; obtain ⟨d0, d1⟩ := HX.out _ hb; clear hb)
      | (go_at_call 24; refine (HA.out _).mono ?_; rintro e V9 ⟨rfl, hb⟩; have HB := Lib.hid hb; clear hb))
    go_ret
    exact ⟨rfl, HFin.out _ (H1.out.trans (HB.out.mono H1.out.size))⟩
  rw [decide_eq_true hsh] at HSh
  by_cases hkl : 100 < M
  case pos =>
    have hk1 : (100 : Int) < (M : Int) := by omega
    clear hr hok hf hff hbW hsh
    go_enter Try.func12, Try.ntmps12
    go_wp2_with (first
      | (go_at_call 29; refine (HF.out _ (Below.refl _ _)).mono ?_; rintro e V ⟨rfl, rfl⟩)
      | (go_at_call 35; refine (HSh.out _).mono ?_; rintro e V1 ⟨rfl, hb⟩; have H1 := Lib.hid hb; obtain ⟨d0, d1⟩ := HX.out _ hb; clear hb)
      | (go_at_call 24; refine (HA.out _).mono ?_; rintro e V9 ⟨rfl, hb⟩; have HB := Lib.hid hb; clear hb))
    go_ret
    exact ⟨rfl, HFin.out _ (H1.out.trans (HB.out.mono H1.out.size))⟩
  have hk1 : ¬ (100 : Int) < (M : Int) := by omega
  have HM := Lib.hid (fun V (h : Below W.heap.size W V) => made_any 3 (by omega) (by omega) a c l hl V ((hr.later hbW).later h))
  obtain ⟨L0, hL⟩ : ∃ L, runL l = L := ⟨_, rfl⟩
  have HOk : Hid (OkL L0) := Lib.hid (by rw [← hL]; exact okL_run l)
  have HLn : Hid (L0.length ≤ 200) := Lib.hid (by rw [← hL]; have := run_len l; omega)
  rw [hL] at HM
  have q2 : binOp .neq 9 (.string ⟨t.toArray⟩) (.string ⟨#[]⟩) = pure (.bool (!(t == []))) := str_neq 9 t []
  have q3 := str_lss 9 t s
  clear hr hok hf hff hbW hsh hL
  by_cases hbad : t ≠ [] ∧ less t s = true
  · have HB2 := Lib.hid (fun b W => newC_bad b s t hbad.1 hbad.2 W)
    rw [show (t == []) = false by simpa using hbad.1] at q2
    rw [show Op.bytesLess t s = true from hbad.2] at q3
    clear hbad
    go_enter Try.func12, Try.ntmps12
    go_wp2_with (first
      | (go_at_call 29; refine (HF.out _ (Below.refl _ _)).mono ?_; rintro e V ⟨rfl, rfl⟩)
      | (go_at_call 35; refine (HSh.out _).mono ?_; rintro e V1 ⟨rfl, hb⟩; have H1 := Lib.hid hb; obtain ⟨d0, d1⟩ := HX.out _ hb; clear hb)
      | (go_at_call 36; refine (HM.out _ H1.out).mono ?_; rintro e V2 ⟨b, r, rfl, ho⟩; have H2 := Lib.hid (And.intro ho (H1.out.trans (ho.low.mono H1.out.size))); obtain ⟨d2, d3⟩ := HX.out _ H2.out.2; clear ho)
      | (go_at_call 26; refine (HB2.out _ _).mono ?_; rintro e V3 ⟨rfl, rfl⟩)
      | (go_at_call 24; refine (HA.out _).mono ?_; rintro e V9 ⟨rfl, hb⟩; have HB := Lib.hid hb; clear hb))
    go_ret
    exact ⟨rfl, HFin.out _ (H2.out.2.trans (HB.out.mono H2.out.2.size))⟩
  have HG : Hid (t = [] ∨ less t s = false) := Lib.hid (by
    by_cases h1 : t = []
    · exact .inl h1
    · cases h2 : less t s with
      | true => exact absurd ⟨h1, h2⟩ hbad
      | false => exact .inr rfl)
  clear hbad
  have hq : (t == []) = true ∨ ((t == []) = false ∧ Op.bytesLess t s = false) := by
    rcases HG.out with h | h
    · exact .inl (by simp [h])
    · by_cases h1 : t = []
      · exact .inl (by simp [h1])
      · exact .inr ⟨by simpa using h1, h⟩
  obtain ⟨tb, htb⟩ : ∃ tb, (t == []) = tb := ⟨_, rfl⟩
  rw [htb] at q2
  obtain ⟨ts, hts⟩ : ∃ ts, Op.bytesLess t s = ts := ⟨_, rfl⟩
  rw [hts] at q3
  have HTB := Lib.hid htb
  rw [htb, hts] at hq
  clear htb hts
  rcases hq with rfl | ⟨rfl, rfl⟩
  · have _0 := trivial
    go_enter Try.func12, Try.ntmps12
    go_wp2_with (first
      | (go_at_call 29; refine (HF.out _ (Below.refl _ _)).mono ?_; rintro e V ⟨rfl, rfl⟩)
      | (go_at_call 35; refine (HSh.out _).mono ?_; rintro e V1 ⟨rfl, hb⟩; have H1 := Lib.hid hb; obtain ⟨d0, d1⟩ := HX.out _ hb; clear hb)
      | (go_at_call 36; refine (HM.out _ H1.out).mono ?_; rintro e V2 ⟨b, r, rfl, ho⟩; have H2 := Lib.hid (And.intro ho (H1.out.trans (ho.low.mono H1.out.size))); obtain ⟨d2, d3⟩ := HX.out _ H2.out.2; clear ho)
      | (go_at_call 26; refine (own_curNew s t HG.out H2.out.1).mono ?_; rintro e V3 ⟨g, rfl, h3⟩; have H3 := Lib.hid (And.intro h3 (H1.out.trans (h3.low.mono H1.out.size))); obtain ⟨d4, d5⟩ := HX.out _ H3.out.2; clear h3))
    have HS0 : Hid (less s s = false) := Lib.hid (Ky.less_self s)
    clear q2 q3
    go_loopw [11, 12, 13] (fun av tv i wr => ∃ (j : Nat) (at_ : Str) (td : Bool) (L : List Pr), j ≤ M ∧ i = .int .i64 j ∧ av = .string ⟨at_.toArray⟩ ∧ tv = .bool td ∧ Hid (less at_ s = false ∧ OkL L ∧ L.length ≤ 200 + j ∧ Own V1.heap.size V1 [CurR g b s t (atN at_ td), TreeR b 3 L, LstR r L] wr)) (fun _ _ i _ => M - (intOf i).toNat)
    case atStart => exact ⟨0, s, false, L0, by omega, rfl, rfl, rfl, Lib.hid ⟨HS0.out, HOk.out, by have := HLn.out; omega, H3.out.1⟩⟩
    case round =>
      obtain ⟨j, at_, td, L, hj, rfl, rfl, rfl, HJ⟩ := hrel
      have k0 : (0 : Int) ≤ (j : Int) := by omega
      have HB1 := Lib.hid (H1.out.trans (HJ.out.2.2.2.low.mono H1.out.size))
      obtain ⟨y0, y1⟩ := HX.out _ HB1.out
      by_cases hlt : j < M
      case neg =>
        obtain rfl : j = M := by omega
        have k1 : ¬ (j : Int) < (j : Int) := by omega
        go_wp2_with (first
          | (go_at_call 24; refine (HA.out _).mono ?_; rintro e V9 ⟨rfl, hb⟩; have HB := Lib.hid hb; clear hb))
        go_ret
        exact ⟨rfl, HFin.out _ (HB1.out.trans (HB.out.mono HB1.out.size))⟩
      obtain ⟨⟨dd, ask, key, v⟩, hx⟩ : ∃ x, m[j]? = some x := ⟨_, List.getElem?_eq_getElem (by rw [HMl.out]; exact hlt)⟩
      obtain ⟨mb, mo, rfl, m0, m1, m2, m3⟩ := move_at (HRM.out _ HB1.out) hx
      have k1 : (j : Int) < (M : Int) := by omega
      obtain ⟨W3, hW3⟩ : ∃ W3, wr.alloc (.cells #[.int .i64 ask, .string ⟨key.toArray⟩, .string ⟨v.toArray⟩] 58) = W3 := ⟨_, rfl⟩
      have hO := own_cells HJ.out.2.2.2 #[.int .i64 ask, .string ⟨key.toArray⟩, .string ⟨v.toArray⟩] 58
      rw [hW3] at hO
      have c0 := own_cell hO (i := 0) rfl
      have c1 := own_cell hO (i := 1) rfl
      have c2 := own_cell hO (i := 2) rfl
      have HC1 : Hid (∀ V A T D, Own V1.heap.size V1 [A, T, D, CellsR wr.heap.size [.int .i64 ask, .string ⟨key.toArray⟩, .string ⟨v.toArray⟩]] V → V.cell? ⟨wr.heap.size, 1, none⟩ = some (.string ⟨key.toArray⟩)) := Lib.hid (fun V A T D h => own_cell (h.perm rotQ) (i := 1) rfl)
      obtain ⟨Q, hQ⟩ : ∃ Q, CellsR wr.heap.size [.int .i64 ask, .string ⟨key.toArray⟩, .string ⟨v.toArray⟩] = Q := ⟨_, rfl⟩
      rw [hQ] at HC1
      have HO3 : Hid (Own V1.heap.size V1 [CurR g b s t (atN at_ td), TreeR b 3 L, LstR r L, Q] W3) := Lib.hid (by have := hO.perm rotQ.symm; rw [← hQ]; exact this)
      have n0 : W3.cell? ⟨mb, mo + j * 4, none⟩ = some (.int .i64 dd) := by rw [← hW3]; exact old_cell m0 (al1 wr _)
      obtain ⟨y2, y3⟩ := HX.out _ (H1.out.trans (HO3.out.low.mono H1.out.size))
      clear hx hO hQ
      by_cases hk3 : 300 < key.length
      case pos =>
        have kk3 : (300 : Int) < (key.length : Int) := by omega
        go_wp2
        go_roundw
        case rel => exact ⟨j + 1, at_, td, L, by omega, by go_num, rfl, rfl, Lib.hid ⟨HJ.out.1, HJ.out.2.1, by have := HJ.out.2.2.1; omega, HO3.out.drop4⟩⟩
        case measure => simp [intOf]; omega
      have kk3 : ¬ (300 : Int) < (key.length : Int) := by omega
      by_cases hv3 : 300 < v.length
      case pos =>
        have kk4 : (300 : Int) < (v.length : Int) := by omega
        go_wp2
        go_roundw
        case rel => exact ⟨j + 1, at_, td, L, by omega, by go_num, rfl, rfl, Lib.hid ⟨HJ.out.1, HJ.out.2.1, by have := HJ.out.2.2.1; omega, HO3.out.drop4⟩⟩
        case measure => simp [intOf]; omega
      have kk4 : ¬ (300 : Int) < (v.length : Int) := by omega
      by_cases hd0 : dd = 0
      case pos =>
        subst hd0
        have HD0 := Lib.hid (fun V (h : Own V1.heap.size V1 [CurR g b s t (nx (atN at_ td) (Tr.rng (atN at_ td) t L)), TreeR b 3 L, LstR r L, Q] V) => own_nextD (s := s) (t := t) (a := at_) (td := td) (h.perm permT) (by have := HJ.out.2.2.1; omega) HJ.out.1)
        have HN := Lib.hid (own_nextX HO3.out (List.Perm.refl _) rfl (okL_short HJ.out.2.1))
        cases hys : Tr.rng (atN at_ td) t L with
        | nil =>
          have HD : Hid (∀ V (h : Own V1.heap.size V1 [CurR g b s t (nx (atN at_ td) []), TreeR b 3 L, LstR r L, Q] V), Calls Try.prog 40 #[ptrV r, .agg #[.string ⟨s.toArray⟩, .string ⟨t.toArray⟩], .string ⟨at_.toArray⟩, .bool td] V fun e V2 => e = .returned (.int .i64 (-1)) ∧ Below V.heap.size V V2) := Lib.hid (fun V h => (HD0.out V (by rw [hys]; exact h)).mono (by
            rintro e V2 ⟨h1 | ⟨k, p, h1, h2, rest, h3⟩, h4⟩
            · exact ⟨h1.1, h4⟩
            · rw [hys] at h3; cases h3))
          rw [hys] at HN
          simp only [nk, nv, List.isEmpty_nil, Bool.not_true] at HN
          have q4 := str_neq 9 [] []
          rw [show (([] : Str) == []) = true by rfl] at q4
          clear hys HD0
          go_wp2_with (first
            | (go_at_call 25; refine HN.out.mono ?_; rintro e V5 ⟨rfl, h5⟩; have H5 := Lib.hid (And.intro h5 (H1.out.trans (h5.low.mono H1.out.size))); obtain ⟨d6, d7⟩ := HX.out _ H5.out.2; clear h5)
            | (go_at_call 40; refine (HD.out _ H5.out.1).mono ?_; rintro e V6 ⟨rfl, hb⟩; have H6 := Lib.hid (And.intro (H5.out.1.later hb) (H5.out.2.trans (hb.mono H5.out.2.size))); obtain ⟨d8, d9⟩ := HX.out _ H6.out.2; clear hb))
          go_roundw
          case rel => exact ⟨j + 1, at_, td, L, by omega, by go_num, rfl, rfl, Lib.hid ⟨HJ.out.1, HJ.out.2.1, by have := HJ.out.2.2.1; omega, H6.out.1.drop4⟩⟩
          case measure => simp [intOf]; omega
        | cons p rest =>
          have HD : Hid (∀ V (h : Own V1.heap.size V1 [CurR g b s t (nx (atN at_ td) (p :: rest)), TreeR b 3 L, LstR r L, Q] V), Calls Try.prog 40 #[ptrV r, .agg #[.string ⟨s.toArray⟩, .string ⟨t.toArray⟩], .string ⟨at_.toArray⟩, .bool td] V fun e V2 => (∃ k : Nat, e = .returned (.int .i64 k) ∧ L[k]? = some p) ∧ Below V.heap.size V V2) := Lib.hid (fun V h => (HD0.out V (by rw [hys]; exact h)).mono (by
            rintro e V2 ⟨h1 | ⟨k, p2, h1, h2, rest2, h3⟩, h4⟩
            · rw [hys] at h1; cases h1.2
            · rw [hys] at h3; cases h3; exact ⟨⟨k, h1, h2⟩, h4⟩))
          have HA2 := Lib.hid (next_ahead HJ.out.1 hys)
          rw [hys] at HN
          simp only [nk, nv, List.isEmpty_cons, Bool.not_false] at HN
          have q4 := str_neq 9 p.1 p.1
          rw [show (p.1 == p.1) = true by simp] at q4
          have q5 := str_neq 9 p.2 p.2
          rw [show (p.2 == p.2) = true by simp] at q5
          clear hys HD0
          go_wp2_with (go_at_call 25; refine HN.out.mono ?_; rintro e V5 ⟨rfl, h5⟩; have H5 := Lib.hid (And.intro h5 (H1.out.trans (h5.low.mono H1.out.size))); obtain ⟨d6, d7⟩ := HX.out _ H5.out.2; clear h5)
          go_at_call 40
          refine (HD.out _ H5.out.1).mono ?_
          rintro e V6 ⟨⟨k, rfl, hk⟩, hb⟩
          have HK := Lib.hid hk
          have H6 := Lib.hid (And.intro (H5.out.1.later hb) (H5.out.2.trans (hb.mono H5.out.2.size)))
          obtain ⟨d8, d9⟩ := HX.out _ H6.out.2
          have kk := (List.getElem?_eq_some_iff.1 hk).1
          have kl0 : (0 : Int) ≤ (k : Int) := by omega
          have kl2 : ¬ (k : Int) < 0 := by omega
          obtain ⟨pb, po, lc, z0, z1, z2⟩ := own_lst (H6.out.1.perm permT) hk
          have kl1 : (k : Int) < (L.length : Int) := by omega
          clear hb hk
          go_wp2
          go_roundw
          case rel => exact ⟨j + 1, p.1, true, L, by omega, by go_num, rfl, rfl, Lib.hid ⟨HA2.out, HJ.out.2.1, by have := HJ.out.2.2.1; omega, H6.out.1.drop4⟩⟩
          case measure => simp [intOf]; omega
      by_cases hd1 : dd = 1
      case pos =>
        subst hd1
        have u1 := str_lss 9 key s
        have u2 : binOp .neq 9 (.string ⟨t.toArray⟩) (.string ⟨#[]⟩) = pure (.bool (!(t == []))) := str_neq 9 t []
        have u3 := str_gtr 9 key t
        cases e1 : Op.bytesLess key s with
        | true =>
          rw [e1] at u1
          have HS := Lib.hid (own_seek_bad (key := key) HO3.out (by unfold outC; rw [show less key s = true from e1]; rfl))
          go_wp2_with (first
            | (go_at_call 28; refine HS.out.mono ?_; rintro e V5 ⟨rfl, rfl⟩))
          go_roundw
          case rel => exact ⟨j + 1, at_, td, L, by omega, by go_num, rfl, rfl, Lib.hid ⟨HJ.out.1, HJ.out.2.1, by have := HJ.out.2.2.1; omega, HO3.out.drop4⟩⟩
          case measure => simp [intOf]; omega
        | false =>
          rw [e1] at u1
          have HE1 : Hid (less key s = false) := Lib.hid e1
          cases e2 : t == [] with
          | true =>
            rw [e2] at u2
            have e3 : t = [] := by simpa using e2
            have HS := Lib.hid (own_seek (key := key) HO3.out (by unfold outC; rw [show less key s = false from e1, e3]; rfl))
            clear e2 e3
            go_wp2_with (first
              | (go_at_call 28; refine HS.out.mono ?_; rintro e V5 ⟨rfl, h5⟩; have c3 := HC1.out _ _ _ _ h5; have H5 := Lib.hid (And.intro h5 (H1.out.trans (h5.low.mono H1.out.size))); obtain ⟨d6, d7⟩ := HX.out _ H5.out.2; clear h5))
            go_roundw
            case rel => exact ⟨j + 1, key, false, L, by omega, by go_num, rfl, rfl, Lib.hid ⟨HE1.out, HJ.out.2.1, by have := HJ.out.2.2.1; omega, H5.out.1.drop4⟩⟩
            case measure => simp [intOf]; omega
          | false =>
            rw [e2] at u2
            have e3 : t ≠ [] := by simpa using e2
            cases e4 : Op.bytesLess t key with
            | true =>
              rw [e4] at u3
              have HS := Lib.hid (own_seek_bad (key := key) HO3.out (by unfold outC; rw [show less key s = false from e1, show less t key = true from e4, decide_eq_true e3]; rfl))
              go_wp2_with (first
                | (go_at_call 28; refine HS.out.mono ?_; rintro e V5 ⟨rfl, rfl⟩))
              go_roundw
              case rel => exact ⟨j + 1, at_, td, L, by omega, by go_num, rfl, rfl, Lib.hid ⟨HJ.out.1, HJ.out.2.1, by have := HJ.out.2.2.1; omega, HO3.out.drop4⟩⟩
              case measure => simp [intOf]; omega
            | false =>
              rw [e4] at u3
              have HS := Lib.hid (own_seek (key := key) HO3.out (by unfold outC; rw [show less key s = false from e1, show less t key = false from e4, decide_eq_true e3]; rfl))
              go_wp2_with (first
                | (go_at_call 28; refine HS.out.mono ?_; rintro e V5 ⟨rfl, h5⟩; have c3 := HC1.out _ _ _ _ h5; have H5 := Lib.hid (And.intro h5 (H1.out.trans (h5.low.mono H1.out.size))); obtain ⟨d6, d7⟩ := HX.out _ H5.out.2; clear h5))
              go_roundw
              case rel => exact ⟨j + 1, key, false, L, by omega, by go_num, rfl, rfl, Lib.hid ⟨HE1.out, HJ.out.2.1, by have := HJ.out.2.2.1; omega, H5.out.1.drop4⟩⟩
              case measure => simp [intOf]; omega
      have HDo := Lib.hid (own_does ask key v (HO3.out.perm rot1) (by have := HJ.out.2.2.1; omega))
      go_wp2_with (first
        | (go_at_call 30; refine HDo.out.mono ?_; rintro e V5 ⟨rfl, h5⟩; have H5 := Lib.hid h5; clear h5))
      go_roundw
      case rel => exact ⟨j + 1, at_, td, stepL ask key v L, by omega, by go_num, rfl, rfl, Lib.hid ⟨HJ.out.1, okL_step HJ.out.2.1 _ _ _, by have := HJ.out.2.2.1; have := stepL_len ask key v L; omega, (H5.out.perm rot1.symm).drop4⟩⟩
      case measure => simp [intOf]; omega
  · have _0 := trivial
    go_enter Try.func12, Try.ntmps12
    go_wp2_with (first
      | (go_at_call 29; refine (HF.out _ (Below.refl _ _)).mono ?_; rintro e V ⟨rfl, rfl⟩)
      | (go_at_call 35; refine (HSh.out _).mono ?_; rintro e V1 ⟨rfl, hb⟩; have H1 := Lib.hid hb; obtain ⟨d0, d1⟩ := HX.out _ hb; clear hb)
      | (go_at_call 36; refine (HM.out _ H1.out).mono ?_; rintro e V2 ⟨b, r, rfl, ho⟩; have H2 := Lib.hid (And.intro ho (H1.out.trans (ho.low.mono H1.out.size))); obtain ⟨d2, d3⟩ := HX.out _ H2.out.2; clear ho)
      | (go_at_call 26; refine (own_curNew s t HG.out H2.out.1).mono ?_; rintro e V3 ⟨g, rfl, h3⟩; have H3 := Lib.hid (And.intro h3 (H1.out.trans (h3.low.mono H1.out.size))); obtain ⟨d4, d5⟩ := HX.out _ H3.out.2; clear h3))
    have HS0 : Hid (less s s = false) := Lib.hid (Ky.less_self s)
    clear q2 q3
    go_loopw [11, 12, 13] (fun av tv i wr => ∃ (j : Nat) (at_ : Str) (td : Bool) (L : List Pr), j ≤ M ∧ i = .int .i64 j ∧ av = .string ⟨at_.toArray⟩ ∧ tv = .bool td ∧ Hid (less at_ s = false ∧ OkL L ∧ L.length ≤ 200 + j ∧ Own V1.heap.size V1 [CurR g b s t (atN at_ td), TreeR b 3 L, LstR r L] wr)) (fun _ _ i _ => M - (intOf i).toNat)
    case atStart => exact ⟨0, s, false, L0, by omega, rfl, rfl, rfl, Lib.hid ⟨HS0.out, HOk.out, by have := HLn.out; omega, H3.out.1⟩⟩
    case round =>
      obtain ⟨j, at_, td, L, hj, rfl, rfl, rfl, HJ⟩ := hrel
      have k0 : (0 : Int) ≤ (j : Int) := by omega
      have HB1 := Lib.hid (H1.out.trans (HJ.out.2.2.2.low.mono H1.out.size))
      obtain ⟨y0, y1⟩ := HX.out _ HB1.out
      by_cases hlt : j < M
      case neg =>
        obtain rfl : j = M := by omega
        have k1 : ¬ (j : Int) < (j : Int) := by omega
        go_wp2_with (first
          | (go_at_call 24; refine (HA.out _).mono ?_; rintro e V9 ⟨rfl, hb⟩; have HB := Lib.hid hb; clear hb))
        go_ret
        exact ⟨rfl, HFin.out _ (HB1.out.trans (HB.out.mono HB1.out.size))⟩
      obtain ⟨⟨dd, ask, key, v⟩, hx⟩ : ∃ x, m[j]? = some x := ⟨_, List.getElem?_eq_getElem (by rw [HMl.out]; exact hlt)⟩
      obtain ⟨mb, mo, rfl, m0, m1, m2, m3⟩ := move_at (HRM.out _ HB1.out) hx
      have k1 : (j : Int) < (M : Int) := by omega
      obtain ⟨W3, hW3⟩ : ∃ W3, wr.alloc (.cells #[.int .i64 ask, .string ⟨key.toArray⟩, .string ⟨v.toArray⟩] 58) = W3 := ⟨_, rfl⟩
      have hO := own_cells HJ.out.2.2.2 #[.int .i64 ask, .string ⟨key.toArray⟩, .string ⟨v.toArray⟩] 58
      rw [hW3] at hO
      have c0 := own_cell hO (i := 0) rfl
      have c1 := own_cell hO (i := 1) rfl
      have c2 := own_cell hO (i := 2) rfl
      have HC1 : Hid (∀ V A T D, Own V1.heap.size V1 [A, T, D, CellsR wr.heap.size [.int .i64 ask, .string ⟨key.toArray⟩, .string ⟨v.toArray⟩]] V → V.cell? ⟨wr.heap.size, 1, none⟩ = some (.string ⟨key.toArray⟩)) := Lib.hid (fun V A T D h => own_cell (h.perm rotQ) (i := 1) rfl)
      obtain ⟨Q, hQ⟩ : ∃ Q, CellsR wr.heap.size [.int .i64 ask, .string ⟨key.toArray⟩, .string ⟨v.toArray⟩] = Q := ⟨_, rfl⟩
      rw [hQ] at HC1
      have HO3 : Hid (Own V1.heap.size V1 [CurR g b s t (atN at_ td), TreeR b 3 L, LstR r L, Q] W3) := Lib.hid (by have := hO.perm rotQ.symm; rw [← hQ]; exact this)
      have n0 : W3.cell? ⟨mb, mo + j * 4, none⟩ = some (.int .i64 dd) := by rw [← hW3]; exact old_cell m0 (al1 wr _)
      obtain ⟨y2, y3⟩ := HX.out _ (H1.out.trans (HO3.out.low.mono H1.out.size))
      clear hx hO hQ
      by_cases hk3 : 300 < key.length
      case pos =>
        have kk3 : (300 : Int) < (key.length : Int) := by omega
        go_wp2
        go_roundw
        case rel => exact ⟨j + 1, at_, td, L, by omega, by go_num, rfl, rfl, Lib.hid ⟨HJ.out.1, HJ.out.2.1, by have := HJ.out.2.2.1; omega, HO3.out.drop4⟩⟩
        case measure => simp [intOf]; omega
      have kk3 : ¬ (300 : Int) < (key.length : Int) := by omega
      by_cases hv3 : 300 < v.length
      case pos =>
        have kk4 : (300 : Int) < (v.length : Int) := by omega
        go_wp2
        go_roundw
        case rel => exact ⟨j + 1, at_, td, L, by omega, by go_num, rfl, rfl, Lib.hid ⟨HJ.out.1, HJ.out.2.1, by have := HJ.out.2.2.1; omega, HO3.out.drop4⟩⟩
        case measure => simp [intOf]; omega
      have kk4 : ¬ (300 : Int) < (v.length : Int) := by omega
      by_cases hd0 : dd = 0
      case pos =>
        subst hd0
        have HD0 := Lib.hid (fun V (h : Own V1.heap.size V1 [CurR g b s t (nx (atN at_ td) (Tr.rng (atN at_ td) t L)), TreeR b 3 L, LstR r L, Q] V) => own_nextD (s := s) (t := t) (a := at_) (td := td) (h.perm permT) (by have := HJ.out.2.2.1; omega) HJ.out.1)
        have HN := Lib.hid (own_nextX HO3.out (List.Perm.refl _) rfl (okL_short HJ.out.2.1))
        cases hys : Tr.rng (atN at_ td) t L with
        | nil =>
          have HD : Hid (∀ V (h : Own V1.heap.size V1 [CurR g b s t (nx (atN at_ td) []), TreeR b 3 L, LstR r L, Q] V), Calls Try.prog 40 #[ptrV r, .agg #[.string ⟨s.toArray⟩, .string ⟨t.toArray⟩], .string ⟨at_.toArray⟩, .bool td] V fun e V2 => e = .returned (.int .i64 (-1)) ∧ Below V.heap.size V V2) := Lib.hid (fun V h => (HD0.out V (by rw [hys]; exact h)).mono (by
            rintro e V2 ⟨h1 | ⟨k, p, h1, h2, rest, h3⟩, h4⟩
            · exact ⟨h1.1, h4⟩
            · rw [hys] at h3; cases h3))
          rw [hys] at HN
          simp only [nk, nv, List.isEmpty_nil, Bool.not_true] at HN
          have q4 := str_neq 9 [] []
          rw [show (([] : Str) == []) = true by rfl] at q4
          clear hys HD0
          go_wp2_with (first
            | (go_at_call 25; refine HN.out.mono ?_; rintro e V5 ⟨rfl, h5⟩; have H5 := Lib.hid (And.intro h5 (H1.out.trans (h5.low.mono H1.out.size))); obtain ⟨d6, d7⟩ := HX.out _ H5.out.2; clear h5)
            | (go_at_call 40; refine (HD.out _ H5.out.1).mono ?_; rintro e V6 ⟨rfl, hb⟩; have H6 := Lib.hid (And.intro (H5.out.1.later hb) (H5.out.2.trans (hb.mono H5.out.2.size))); obtain ⟨d8, d9⟩ := HX.out _ H6.out.2; clear hb))
          go_roundw
          case rel => exact ⟨j + 1, at_, td, L, by omega, by go_num, rfl, rfl, Lib.hid ⟨HJ.out.1, HJ.out.2.1, by have := HJ.out.2.2.1; omega, H6.out.1.drop4⟩⟩
          case measure => simp [intOf]; omega
        | cons p rest =>
          have HD : Hid (∀ V (h : Own V1.heap.size V1 [CurR g b s t (nx (atN at_ td) (p :: rest)), TreeR b 3 L, LstR r L, Q] V), Calls Try.prog 40 #[ptrV r, .agg #[.string ⟨s.toArray⟩, .string ⟨t.toArray⟩], .string ⟨at_.toArray⟩, .bool td] V fun e V2 => (∃ k : Nat, e = .returned (.int .i64 k) ∧ L[k]? = some p) ∧ Below V.heap.size V V2) := Lib.hid (fun V h => (HD0.out V (by rw [hys]; exact h)).mono (by
            rintro e V2 ⟨h1 | ⟨k, p2, h1, h2, rest2, h3⟩, h4⟩
            · rw [hys] at h1; cases h1.2
            · rw [hys] at h3; cases h3; exact ⟨⟨k, h1, h2⟩, h4⟩))
          have HA2 := Lib.hid (next_ahead HJ.out.1 hys)
          rw [hys] at HN
          simp only [nk, nv, List.isEmpty_cons, Bool.not_false] at HN
          have q4 := str_neq 9 p.1 p.1
          rw [show (p.1 == p.1) = true by simp] at q4
          have q5 := str_neq 9 p.2 p.2
          rw [show (p.2 == p.2) = true by simp] at q5
          clear hys HD0
          go_wp2_with (go_at_call 25; refine HN.out.mono ?_; rintro e V5 ⟨rfl, h5⟩; have H5 := Lib.hid (And.intro h5 (H1.out.trans (h5.low.mono H1.out.size))); obtain ⟨d6, d7⟩ := HX.out _ H5.out.2; clear h5)
          go_at_call 40
          refine (HD.out _ H5.out.1).mono ?_
          rintro e V6 ⟨⟨k, rfl, hk⟩, hb⟩
          have HK := Lib.hid hk
          have H6 := Lib.hid (And.intro (H5.out.1.later hb) (H5.out.2.trans (hb.mono H5.out.2.size)))
          obtain ⟨d8, d9⟩ := HX.out _ H6.out.2
          have kk := (List.getElem?_eq_some_iff.1 hk).1
          have kl0 : (0 : Int) ≤ (k : Int) := by omega
          have kl2 : ¬ (k : Int) < 0 := by omega
          obtain ⟨pb, po, lc, z0, z1, z2⟩ := own_lst (H6.out.1.perm permT) hk
          have kl1 : (k : Int) < (L.length : Int) := by omega
          clear hb hk
          go_wp2
          go_roundw
          case rel => exact ⟨j + 1, p.1, true, L, by omega, by go_num, rfl, rfl, Lib.hid ⟨HA2.out, HJ.out.2.1, by have := HJ.out.2.2.1; omega, H6.out.1.drop4⟩⟩
          case measure => simp [intOf]; omega
      by_cases hd1 : dd = 1
      case pos =>
        subst hd1
        have u1 := str_lss 9 key s
        have u2 : binOp .neq 9 (.string ⟨t.toArray⟩) (.string ⟨#[]⟩) = pure (.bool (!(t == []))) := str_neq 9 t []
        have u3 := str_gtr 9 key t
        cases e1 : Op.bytesLess key s with
        | true =>
          rw [e1] at u1
          have HS := Lib.hid (own_seek_bad (key := key) HO3.out (by unfold outC; rw [show less key s = true from e1]; rfl))
          go_wp2_with (first
            | (go_at_call 28; refine HS.out.mono ?_; rintro e V5 ⟨rfl, rfl⟩))
          go_roundw
          case rel => exact ⟨j + 1, at_, td, L, by omega, by go_num, rfl, rfl, Lib.hid ⟨HJ.out.1, HJ.out.2.1, by have := HJ.out.2.2.1; omega, HO3.out.drop4⟩⟩
          case measure => simp [intOf]; omega
        | false =>
          rw [e1] at u1
          have HE1 : Hid (less key s = false) := Lib.hid e1
          cases e2 : t == [] with
          | true =>
            rw [e2] at u2
            have e3 : t = [] := by simpa using e2
            have HS := Lib.hid (own_seek (key := key) HO3.out (by unfold outC; rw [show less key s = false from e1, e3]; rfl))
            clear e2 e3
            go_wp2_with (first
              | (go_at_call 28; refine HS.out.mono ?_; rintro e V5 ⟨rfl, h5⟩; have c3 := HC1.out _ _ _ _ h5; have H5 := Lib.hid (And.intro h5 (H1.out.trans (h5.low.mono H1.out.size))); obtain ⟨d6, d7⟩ := HX.out _ H5.out.2; clear h5))
            go_roundw
            case rel => exact ⟨j + 1, key, false, L, by omega, by go_num, rfl, rfl, Lib.hid ⟨HE1.out, HJ.out.2.1, by have := HJ.out.2.2.1; omega, H5.out.1.drop4⟩⟩
            case measure => simp [intOf]; omega
          | false =>
            rw [e2] at u2
            have e3 : t ≠ [] := by simpa using e2
            cases e4 : Op.bytesLess t key with
            | true =>
              rw [e4] at u3
              have HS := Lib.hid (own_seek_bad (key := key) HO3.out (by unfold outC; rw [show less key s = false from e1, show less t key = true from e4, decide_eq_true e3]; rfl))
              go_wp2_with (first
                | (go_at_call 28; refine HS.out.mono ?_; rintro e V5 ⟨rfl, rfl⟩))
              go_roundw
              case rel => exact ⟨j + 1, at_, td, L, by omega, by go_num, rfl, rfl, Lib.hid ⟨HJ.out.1, HJ.out.2.1, by have := HJ.out.2.2.1; omega, HO3.out.drop4⟩⟩
              case measure => simp [intOf]; omega
            | false =>
              rw [e4] at u3
              have HS := Lib.hid (own_seek (key := key) HO3.out (by unfold outC; rw [show less key s = false from e1, show less t key = false from e4, decide_eq_true e3]; rfl))
              go_wp2_with (first
                | (go_at_call 28; refine HS.out.mono ?_; rintro e V5 ⟨rfl, h5⟩; have c3 := HC1.out _ _ _ _ h5; have H5 := Lib.hid (And.intro h5 (H1.out.trans (h5.low.mono H1.out.size))); obtain ⟨d6, d7⟩ := HX.out _ H5.out.2; clear h5))
              go_roundw
              case rel => exact ⟨j + 1, key, false, L, by omega, by go_num, rfl, rfl, Lib.hid ⟨HE1.out, HJ.out.2.1, by have := HJ.out.2.2.1; omega, H5.out.1.drop4⟩⟩
              case measure => simp [intOf]; omega
      have HDo := Lib.hid (own_does ask key v (HO3.out.perm rot1) (by have := HJ.out.2.2.1; omega))
      go_wp2_with (first
        | (go_at_call 30; refine HDo.out.mono ?_; rintro e V5 ⟨rfl, h5⟩; have H5 := Lib.hid h5; clear h5))
      go_roundw
      case rel => exact ⟨j + 1, at_, td, stepL ask key v L, by omega, by go_num, rfl, rfl, Lib.hid ⟨HJ.out.1, okL_step HJ.out.2.1 _ _ _, by have := HJ.out.2.2.1; have := stepL_len ask key v L; omega, (H5.out.perm rot1.symm).drop4⟩⟩
      case measure => simp [intOf]; omega
end Go.Proofs.Ytbempjkkohjnbaa
