/- Joined: Law7. -/
import Derived.Test.YtbempjkkohjnbaaYLaw6
import Derived.Test.YtbempjkkohjnbaaYCur1
import Derived.Test.YtbempjkkohjnbaaYTr
/- The laws of package tree: TreeSteps. -/
namespace Go.Proofs.Ytbempjkkohjnbaa
open Go.RowKit Tr
open Ky (less)

/-- Keys that are keys. -/
def OkL (L : List Pr) : Prop := ∀ p ∈ L, okTk p.1 = true ∧ p.2.length ≤ 256
theorem okL_step {L : List Pr} (h : OkL L) (ask : Int) (key v : Str) : OkL (stepL ask key v L) := by
  unfold stepL
  split
  · unfold putL
    split
    · rename_i hk
      intro p hp
      rcases ins_mem hp with rfl | hp
      · simpa using hk
      · exact h p hp
    · exact h
  · split
    · unfold delL
      split
      · exact fun p hp => h p (del_mem hp)
      · exact h
    · exact h
theorem okL_run (l : List TOp) : OkL (runL l) := by
  have h : ∀ (l : List TOp) (L : List Pr), OkL L → OkL (l.foldl (fun L x => stepL x.1 x.2.1 x.2.2 L) L) := by
    intro l
    induction l with
    | nil => exact fun L h => h
    | cons x l ih => exact fun L h => ih _ (okL_step h _ _ _)
  exact h l [] (fun p hp => by cases hp)
theorem TwoAt.sorted {B : Nat} {K : Foot} {w : World} {b o r : Nat} {L1 L2 : List Pr} (h : TwoAt B K w b o r L1 L2) : Sorted L1 := by
  obtain ⟨h, g, F, a, c, T⟩ := h
  have := T.t.good.sorted
  rwa [T.e] at this
theorem two_ceil {B : Nat} {K : Foot} {w : World} {b o r : Nat} {L1 L2 : List Pr} (key : Str) (T : TwoAt B K w b o r L1 L2) :
    Calls Try.prog 32 #[ptrV b, .string ⟨key.toArray⟩] w fun e V => e = .returned (.tuple #[.string ⟨(ckey (ceil key L1)).toArray⟩, .string ⟨(cval (ceil key L1)).toArray⟩, .int .i64 (ccode (ceil key L1))]) ∧ Below w.heap.size w V := by
  obtain ⟨h, g, F, a, c, T⟩ := T
  have := ceil_walk b o h g key w T.t
  rw [T.e] at this
  exact this
theorem two_count {B : Nat} {K : Foot} {w : World} {b o r : Nat} {L1 L2 : List Pr} (T : TwoAt B K w b o r L1 L2) : w.cell? ⟨b, 1, none⟩ = some (.int .i64 (L1.length : Nat)) := by
  obtain ⟨h, g, F, a, c, T⟩ := T
  have := T.t.m.c1
  rw [T.e] at this
  exact this
/-- Get of a key that is there. -/
theorem two_has {B : Nat} {K : Foot} {w : World} {b o r : Nat} {L1 L2 : List Pr} {p : Pr} (T : TwoAt B K w b o r L1 L2) (hp : p ∈ L1) (hk : okTk p.1 = true) :
    Calls Try.prog 33 #[ptrV b, .string ⟨p.1.toArray⟩] w fun e V => e = .returned (.tuple #[.string ⟨p.2.toArray⟩, .int .i64 0]) ∧ TwoAt B K V b o r L1 L2 ∧ Below B w V := by
  refine (two_get p.1 T).mono ?_
  rintro e V ⟨rfl, h1, h2, _⟩
  have hg := get_of T.sorted hp
  refine ⟨?_, h1, h2⟩
  unfold getO getC oldS cdel
  rw [hk, hg]
  rfl
set_option maxHeartbeats 4000000 in
set_option maxRecDepth 100000 in
theorem treeSteps_walk (order : Int) (a : Option Addr) (c : Nat) (l : List TOp) (w : World) (hr : Rd w 3 a l.length c (topsV l)) (hok : ∀ x ∈ l, OkTop x) :
    Calls Try.prog 6 #[.int .i64 order, .slice a l.length c] w (Yes w) := by
  have hcap := hr.cap
  have hle := hr.le
  unfold maxLen at hcap
  have HA := Lib.hid (fun W => awake4_any W)
  by_cases ho : order < 2 ∨ 16 < order
  · have HN := Lib.hid (newT_bad order ho w)
    clear hr hok ho
    go_enter Try.func6, Try.ntmps6
    go_wp2_with (first
      | (go_at_call 17; refine HN.out.mono ?_; rintro e V ⟨rfl, rfl⟩)
      | (go_at_call 18; refine (HA.out _).mono ?_; rintro e V ⟨rfl, hb⟩; have HB := Lib.hid hb; clear hb))
    go_ret
    exact ⟨rfl, HB.out⟩
  obtain ⟨o, rfl⟩ : ∃ o : Nat, order = o := ⟨order.toNat, by omega⟩
  have HN := Lib.hid (newT_any o (by omega) (by omega) w)
  have HF := Lib.hid (fun W (h : Below w.heap.size w W) => few_any a c l (by omega) hok W (hr.later h))
  by_cases hf : fewL l
  case neg =>
    have hff : decide (fewL l) = false := by simpa using hf
    rw [hff] at HF
    clear hr hok ho hf hff
    go_enter Try.func6, Try.ntmps6
    go_wp2_with (first
      | (go_at_call 17; refine HN.out.mono ?_; rintro e V ⟨b, g, rfl, t1, t2, t3, t4⟩; have H0 := Lib.hid t3; clear t1 t2 t3 t4)
      | (go_at_call 29; refine (HF.out _ H0.out).mono ?_; rintro e V ⟨rfl, rfl⟩)
      | (go_at_call 18; refine (HA.out _).mono ?_; rintro e V ⟨rfl, hb⟩; have HB := Lib.hid hb; clear hb))
    go_ret
    exact ⟨rfl, H0.out.trans (HB.out.mono H0.out.size)⟩
  have hff : decide (fewL l) = true := by simpa using hf
  have hl := hf.2
  have HR := Lib.hid hr
  rw [hff] at HF
  clear hr hok ho hf hff
  go_enter Try.func6, Try.ntmps6
  go_wp2_with (first
    | (go_at_call 17; refine HN.out.mono ?_; rintro e V ⟨b, g, rfl, t1, t2, t3, t4⟩; have H0 := Lib.hid t3; have H1 := Lib.hid (fun t => Run.start (l := l) (t := t) t1 t2 t3 t4); clear t1 t2 t3 t4)
    | (go_at_call 29; refine (HF.out _ H0.out).mono ?_; rintro e V ⟨rfl, rfl⟩))
  obtain ⟨r, hrr⟩ : ∃ r, V.heap.size = r := ⟨_, rfl⟩
  rw [hrr] at H1 ⊢
  clear hrr
  go_loopw [8] (fun i wr => ∃ (j : Nat), j ≤ l.length ∧ i = .int .i64 j ∧ Hid (Run w wr b o r l j)) (fun i _ => l.length - (intOf i).toNat)
  case atStart => exact ⟨0, by omega, rfl, Lib.hid (H1.out _)⟩
  case round =>
    obtain ⟨j, hj, rfl, HJ⟩ := hrel
    by_cases hlt : j < l.length
    · obtain ⟨⟨ask, key, v⟩, hx⟩ : ∃ x, l[j]? = some x := ⟨_, List.getElem?_eq_getElem hlt⟩
      obtain ⟨lb, lo, rfl, x0, x1, x2⟩ := top_at (HR.out.later HJ.out.2) hx
      have HD := Lib.hid (HJ.out.does hx hl)
      have k0 : (0 : Int) ≤ (j : Int) := by omega
      have k1 : (j : Int) < (l.length : Int) := by omega
      clear hx
      go_wp2_with (go_at_call 30; refine HD.out.mono ?_; rintro e V2 ⟨rfl, H2⟩)
      go_roundw
      case rel => exact ⟨j + 1, by omega, by go_num, H2⟩
      case measure => simp [intOf]; omega
    · obtain rfl : j = l.length := by omega
      have hL : (runL l).length ≤ l.length := run_len l
      obtain ⟨n, hn⟩ : ∃ n, (runL l).length = n := ⟨_, rfl⟩
      have HNn := Lib.hid hn
      have hn2 : n ≤ 200 := by omega
      have HT : Hid (TwoAt w.heap.size noCells wr b o r (runL l) (runL l) ∧ Below w.heap.size w wr) := Lib.hid (by have := HJ.out; unfold Run at this; rwa [List.take_length] at this)
      clear HJ hn hL
      obtain ⟨wo, rfl⟩ : ∃ wo : World, wo = wr := ⟨_, rfl⟩
      go_wp2
      go_loopw [9, 10] (fun s i wr => ∃ (j : Nat), j ≤ n ∧ i = .int .i64 j ∧ s = .string ⟨(atOf (runL l) j).toArray⟩ ∧ Hid (TwoAt w.heap.size noCells wr b o r (runL l) (runL l) ∧ Below w.heap.size w wr)) (fun _ i _ => n - (intOf i).toNat)
      case atStart => exact ⟨0, by omega, rfl, rfl, HT⟩
      case round =>
        obtain ⟨j, hj, rfl, rfl, HJ⟩ := hrel
        have hcnt := two_count HJ.out.1
        rw [HNn.out] at hcnt
        have HL := Lib.hid (fun W hc => lenT_any b n W hc)
        obtain ⟨at_, hat⟩ : ∃ x, atOf (runL l) j = x := ⟨_, rfl⟩
        have hce : ceil at_ (runL l) = (runL l)[j]? := by rw [← hat]; exact ceil_step HJ.out.1.sorted (by rw [HNn.out]; exact hj)
        have HC := two_ceil at_ HJ.out.1
        rw [hce] at HC
        rw [hat]
        have hj' : (j : Int) ≤ (n : Int) := by omega
        by_cases hlt : j < n
        · obtain ⟨p, hp⟩ : ∃ p, (runL l)[j]? = some p := ⟨_, List.getElem?_eq_getElem (by rw [HNn.out]; exact hlt)⟩
          have hok := okL_run l p (List.mem_of_getElem? hp)
          have hpl : p.1.length ≤ 64 := by have := hok.1; unfold okTk at this; simp at this; exact this.2
          rw [hp] at HC hce
          simp only [ckey, cval, ccode] at HC
          have hge := ceil_ge hce
          have HC := Lib.hid HC
          have HG : Hid (∀ W, Below wr.heap.size wr W → Calls Try.prog 33 #[ptrV b, .string ⟨p.1.toArray⟩] W fun e V => e = .returned (.tuple #[.string ⟨p.2.toArray⟩, .int .i64 0]) ∧ Hid (TwoAt w.heap.size noCells V b o r (runL l) (runL l) ∧ Below w.heap.size w V)) := Lib.hid (fun W hb => by
            refine (two_has (HJ.out.1.later hb) (List.mem_of_getElem? hp) hok.1).mono ?_
            rintro e V ⟨rfl, h1, h2⟩
            exact ⟨rfl, Lib.hid ⟨h1, (HJ.out.2.trans (hb.mono HJ.out.2.size)).trans h2⟩⟩)
          have HP := Lib.hid (atOf_succ hp)
          have q1 := str_lss 9 p.1 at_
          rw [show Op.bytesLess p.1 at_ = false from hge] at q1
          have q2 := str_neq 9 p.2 p.2
          rw [show (p.2 == p.2) = true by simp] at q2
          have q3 : binOp .add 9 (.string ⟨p.1.toArray⟩) (.string ⟨#[0]⟩) = pure (.string ⟨(p.1 ++ [0]).toArray⟩) := cat_run 9 p.1 [0] (by simp; omega)
          have HAt := Lib.hid hat
          clear hp hok hge hce hpl hat
          go_wp2_with (first
            | (go_at_call 31; refine (HL.out _ hcnt).mono ?_; rintro e V ⟨rfl, rfl⟩)
            | (go_at_call 32; refine HC.out.mono ?_; rintro e V1 ⟨rfl, hb⟩; have H1 := Lib.hid hb; clear hb)
            | (go_at_call 33; refine (HG.out _ H1.out).mono ?_; rintro e V2 ⟨rfl, H2⟩))
          go_roundw
          case rel => exact ⟨j + 1, by omega, by go_num, by rw [HP.out], H2⟩
          case measure => simp [intOf]; omega
        · obtain rfl : j = n := by omega
          have hnone : (runL l)[j]? = none := by rw [List.getElem?_eq_none_iff, HNn.out]; exact Nat.le_refl _
          rw [hnone] at HC
          simp only [ckey, cval, ccode] at HC
          have HC := Lib.hid HC
          clear hce hnone hat
          go_wp2_with (first
            | (go_at_call 31; refine (HL.out _ (by assumption)).mono ?_; rintro e V ⟨rfl, rfl⟩)
            | (go_at_call 32; refine HC.out.mono ?_; rintro e V1 ⟨rfl, hb⟩; have H1 := Lib.hid hb; have hcnt2 := old_cell hcnt hb; clear hb hcnt)
            | (go_at_call 18; refine (HA.out _).mono ?_; rintro e V5 ⟨rfl, hb⟩; have HB := Lib.hid hb; clear hb))
          go_ret
          have b1 := HJ.out.2.trans (H1.out.mono HJ.out.2.size)
          exact ⟨rfl, b1.trans (HB.out.mono b1.size)⟩
end Go.Proofs.Ytbempjkkohjnbaa
