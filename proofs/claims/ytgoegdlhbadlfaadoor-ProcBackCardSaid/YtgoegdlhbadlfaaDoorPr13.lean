/- Package proc: lines. -/
import Derived.Test.YtgoegdlhbadlfaaDoorPr12
import Derived.Test.YtgoegdlhbadlfaaDoorIter2
import Derived.Deep.LoopGhost
namespace Go.Proofs.YtgoegdlhbadlfaaDoor
namespace Pc
open Go.RowKit
attribute [local go_sem] Oper.semAt_some
def mark (D : Nat) : Deferred := { target := .collected D, args := #[] }
theorem leave_marks {P : Program} {n : Nat} {fn : Func} {tmps : Array Value} {R : Ending → World → Prop} : ∀ (Ds : List Nat) (W : World), Ds.Nodup → (∀ D ∈ Ds, W.heap[D]? = some (.deferred (some []))) →
    (∀ W', Fr (fun k _ => k ∈ Ds) W W' → ∃ v, (results fn tmps).run P W' = .ok v W' ∧ R (.returned v) W') → LeavesInM Fence.wide n P fn tmps R (Ds.map mark) .returning W
  | [], W, _, _, h => h W (Fr.refl _ _)
  | D :: Ds, W, hn, hd, h => by
    have hD := hd D (by simp)
    have hn' := List.nodup_cons.1 hn
    refine ⟨by simp, .inl ⟨D, _, rfl, run_takeDeferred hD, leave_marks Ds _ hn'.2 (fun E hE => ?_) (fun W' hf => ?_)⟩⟩
    · have : E ≠ D := fun e => hn'.1 (e ▸ hE)
      exact (World.putObj_heap_other this).trans (hd E (List.mem_cons_of_mem _ hE))
    · refine h W' (((Fr.putObj W D (.deferred none)).mono (fun b _ e => by subst e; simp)).trans hf (fun b _ hb => .inl (List.mem_cons_of_mem _ hb)))
theorem leave_none {P : Program} {n : Nat} {fn : Func} {tmps : Array Value} {R : Ending → World → Prop} {W : World} (h : ∃ v, (results fn tmps).run P W = .ok v W ∧ R (.returned v) W) : LeavesInM Fence.wide n P fn tmps R [] .returning W := h
theorem calls_marks {P : Program} {f : FuncId} {fn : Func} {c : Code} {args : Array Value} {w : World} {R : Ending → World → Prop} (hf : P.funcs[f]? = some fn) (hb : fn.body = some c)
    (h : c.wpIn Fence.wide 3 P (bodyPostM Fence.wide 3 P fn R) { tmps := args ++ Array.replicate (fn.ntmps - args.size) undef, defers := [] } w) : Calls P f args w R :=
  callsIn_wide.1 (callsIn_of_wp_marks hf hb trivial h rfl)
/-- Where a text's first line ends. -/
def endP (s : Str) : Nat := if Lib.indexByte s 10 = -1 then s.length else (Lib.indexByte s 10).toNat + 1
def linesG : Nat → Nat → Str → List (Nat × Str)
  | 0, _, _ => []
  | n + 1, k, s => if s = [] then [] else (k, s.take (endP s)) :: linesG n (k + 1) (s.drop (endP s))
/-- The lines of a text, each with its number and its end. -/
def linesP (k : Nat) (s : Str) : List (Nat × Str) := linesG s.length k s
theorem indexByte_lt : ∀ (s : Str) (c : UInt8), Lib.indexByte s c < s.length ∨ s = []
  | [], _ => .inr rfl
  | b :: l, c => by
    refine .inl ?_
    rw [Lib.indexByte]
    have := indexByte_lt l c
    rcases this with h | h
    · split
      · simp only [List.length_cons]; omega
      · split <;> (simp only [List.length_cons]; omega)
    · subst h
      simp [Lib.indexByte]
      split <;> omega
theorem endP_pos {s : Str} (h : s ≠ []) : 1 ≤ endP s ∧ endP s ≤ s.length := by
  have h1 : 1 ≤ s.length := by cases s with | nil => exact (h rfl).elim | cons b l => simp
  have h2 := Lib.indexByte_ge s 10
  have h3 := (indexByte_lt s 10).resolve_right h
  unfold endP
  split <;> omega
theorem linesG_fuel : ∀ (n n2 k : Nat) (s : Str), s.length ≤ n → s.length ≤ n2 → linesG n k s = linesG n2 k s
  | 0, 0, _, _, _, _ => rfl
  | 0, n2 + 1, k, s, h, _ => by
    obtain rfl : s = [] := List.eq_nil_of_length_eq_zero (by omega)
    rfl
  | n + 1, 0, k, s, _, h => by
    obtain rfl : s = [] := List.eq_nil_of_length_eq_zero (by omega)
    rfl
  | n + 1, n2 + 1, k, s, h1, h2 => by
    rw [linesG, linesG]
    by_cases h : s = []
    · rw [if_pos h, if_pos h]
    · have he := endP_pos h
      rw [if_neg h, if_neg h, linesG_fuel n n2 (k + 1) (s.drop (endP s)) (by rw [List.length_drop]; omega) (by rw [List.length_drop]; omega)]
theorem linesP_nil (k : Nat) : linesP k [] = [] := rfl
theorem linesP_step (k : Nat) {s : Str} (h : s ≠ []) : linesP k s = (k, s.take (endP s)) :: linesP (k + 1) (s.drop (endP s)) := by
  have he := endP_pos h
  unfold linesP
  obtain ⟨n, hn⟩ : ∃ n, s.length = n + 1 := ⟨s.length - 1, by omega⟩
  rw [hn, linesG, if_neg h, linesG_fuel n (s.drop (endP s)).length (k + 1) (s.drop (endP s)) (by rw [List.length_drop]; omega) (Nat.le_refl _)]
theorem cut_to (t : TypeId) (ht : Tryd.prog.underlying t = some .string) (s : Str) (e : Nat) (he : e ≤ s.length) (W : World) : (Instr.slice t (.string ⟨s.toArray⟩) none (some (.int .i64 (e : Int))) none).run Tryd.prog W = .ok (.string ⟨(s.take e).toArray⟩) W := by
  have hz : (⟨s.toArray⟩ : ByteArray).size = s.length := by show s.toArray.size = _; simp
  rw [run_slice_string_h W t ⟨s.toArray⟩ ht .i64 (e : Int) (by omega) (by rw [hz]; omega)]
  have : (⟨s.toArray⟩ : ByteArray).extract 0 e = ⟨(s.take e).toArray⟩ := by
    have := Lib.extract_from_zero ⟨s.toArray⟩ e
    simp only at this
    rw [← this]
  rw [Int.toNat_natCast, this]
theorem cut_from (t : TypeId) (ht : Tryd.prog.underlying t = some .string) (s : Str) (e : Nat) (he : e ≤ s.length) (W : World) : (Instr.slice t (.string ⟨s.toArray⟩) (some (.int .i64 (e : Int))) none none).run Tryd.prog W = .ok (.string ⟨(s.drop e).toArray⟩) W := by
  have hz : (⟨s.toArray⟩ : ByteArray).size = s.length := by show s.toArray.size = _; simp
  rw [run_slice_string_l W t ⟨s.toArray⟩ ht .i64 (e : Int) (by omega) (by rw [hz]; omega)]
  have : (⟨s.toArray⟩ : ByteArray).extract e (⟨s.toArray⟩ : ByteArray).size = ⟨(s.drop e).toArray⟩ := by
    have := Lib.extract_to_end ⟨s.toArray⟩ e
    simp only at this
    rw [← this]
  rw [Int.toNat_natCast, this]
theorem index_any (s : Str) (w : World) : Calls Tryd.prog 26 #[.string ⟨s.toArray⟩, .int .u8 10] w fun e V => e = .returned (.int .i64 (Lib.indexByte s 10)) ∧ w = V := by
  refine (Sh.strings_IndexByte ⟨s.toArray⟩ 10 w).mono ?_
  rintro e V ⟨rfl, rfl⟩
  exact ⟨by simp, rfl⟩
theorem lines_any (s : Str) (w : World) : Calls Tryd.prog 17 #[.string ⟨s.toArray⟩] w fun e V => e = .returned (.func (.func 25) #[] #[.pointer (some ⟨w.heap.size, 0, none⟩)]) ∧ w.alloc (.cells #[.string ⟨s.toArray⟩] 9) = V := by
  go_enter Tryd.func17, Tryd.ntmps17
  go_wp2
  go_ret
  exact ⟨rfl, rfl⟩
def lnE (x : Nat × Str) : Array Value := #[.int .i64 x.1, .string ⟨x.2.toArray⟩]
def lFrame (l Sb k : Nat) (rest : Str) (a : Act) : Prop := ∃ u2 u5 u6 u7 u8 u9 u10 u11 u12 u13 u14 u15 u16 u17 u18 u19 u20 u21 u22 u23 u24 u25 u26 u27 : Value, a = { tmps := #[(.func (.yield l) #[] #[]), (.pointer (some ⟨Sb, 0, none⟩)), u2, .string ⟨rest.toArray⟩, .int .i64 k, u5, u6, u7, u8, u9, u10, u11, u12, u13, u14, u15, u16, u17, u18, u19, u20, u21, u22, u23, u24, u25, u26, u27], defers := [] }
set_option maxHeartbeats 4000000 in
set_option maxRecDepth 100000 in
theorem lines1_tells (Sb : Nat) (s : Str) (hs : s.length ≤ 1000000) (R : Nat → Prop) (W : World) (hB : W.cell? ⟨Sb, 0, none⟩ = some (.string ⟨s.toArray⟩)) :
    Tells True Tryd.prog 25 #[.pointer (some ⟨Sb, 0, none⟩)] lnE (linesP 1 s) R (fun _ => False) W := by
  intro l J Jx hst hJ hJx hY h0
  clear hst
  refine calls_marks Tryd.func25 rfl ?_
  simp only [Tryd.ntmps25, List.size_toArray, List.length_cons, List.length_nil, Nat.reduceAdd, Nat.reduceSub, Array.replicate_succ, Array.replicate_zero, List.push_toArray, List.append_toArray, List.nil_append, List.cons_append]
  obtain ⟨xs, hxs⟩ : ∃ xs, linesP 1 s = xs := ⟨_, rfl⟩
  rw [hxs] at hY ⊢
  have H0 := Lib.hid h0
  have HY := Lib.hid hY
  have HS := Lib.hid (And.intro hJ hJx)
  have HXS := Lib.hid hxs
  clear hJ hJx hY h0 hxs
  gi_wp2
  refine wpIn_wide.2 (wp_loop_ghost_k (fun N a wr => ∃ (pre : List (Nat × Str)) (k : Nat) (rest : Str), rest.length = N ∧ k + rest.length ≤ s.length + 1 ∧ xs = pre ++ linesP k rest ∧ lFrame l Sb k rest a ∧ Hid (J (fun _ => False) pre wr)) s.length ⟨[], 1, s, rfl, by omega, HXS.out.symm, ⟨_, _, _, _, _, _, _, _, _, _, _, _, _, _, _, _, _, _, _, _, _, _, _, _, rfl⟩, H0⟩ ?round)
  case round =>
    intro N a wr hrel J' K' hJ' hK'
    refine (wpIn_wide (n := 3)).1 ?_
    obtain ⟨pre, k, rest, rfl, hk, hxs, ⟨u2, u5, u6, u7, u8, u9, u10, u11, u12, u13, u14, u15, u16, u17, u18, u19, u20, u21, u22, u23, u24, u25, u26, u27, rfl⟩, HB⟩ := hrel
    have hq := fun t => str_neq t rest []
    have hsz : (⟨rest.toArray⟩ : ByteArray).size = rest.length := by show rest.toArray.size = _; simp
    by_cases hr : rest = []
    · subst hr
      have HX := Lib.hid hxs
      clear hxs
      gi_wp2
      refine leave_none ⟨_, results_none rfl _ _ _, ⟨_, rfl⟩, fun _ => False, fun k h => h, .inl ?_⟩
      have := HB.out
      rw [HX.out, linesP_nil, List.append_nil]
      exact this
    · rw [show (rest == ([] : Str)) = false from beq_eq_false_iff_ne.2 hr] at hq
      have he := endP_pos hr
      rw [linesP_step k hr] at hxs
      have HX := Lib.hid hxs
      obtain ⟨fn, tm, as_, bd, hy, hRd⟩ := HY.out (fun _ => False) pre _ _ wr hxs (fun k h => h) HB.out 2
      have HW := Lib.hid hRd
      simp only [lnE] at hy
      clear hxs hRd
      have HC := Lib.hid (fun W => index_any rest W)
      have kb : (k : Int) ≤ 1000001 := by omega
      have k0 : (0 : Int) ≤ (k : Int) := by omega
      have hrl : rest.length ≤ 1000001 := by omega
      by_cases hj : Lib.indexByte rest 10 = -1
      case pos =>
        have hto := fun W => cut_to 9 Tryd.underlying9 rest (endP rest) he.2 W
        have hfrom := fun W => cut_from 9 Tryd.underlying9 rest (endP rest) he.2 W
        have hee : endP rest = rest.length := by unfold endP; rw [if_pos hj]
        rw [hee] at hto hfrom
        rw [hj] at HC
        rw [hee] at hy HX HW
        rw [List.take_length] at hto hy HX HW
        rw [List.drop_length] at hfrom HX
        clear hj
        gi_wp2_with (refine ⟨trivial, ?_⟩; gi_at_call 26; refine (callsIn_wide.2 (HC.out _)).mono ?_; rintro e V ⟨rfl, rfl⟩)
        refine HW.out.mono ?_
        rintro e W2 ⟨_, ⟨rfl, hj2⟩ | ⟨rfl, hj2⟩⟩
        · have HJ := Lib.hid hj2
          clear hj2
          gi_wp2
          exact Handed.intro ([] : Str).length (by have := he.1; simp; omega) (hJ' _ _ _ ⟨pre ++ [(k, rest)], k + 1, [], rfl, by simp; omega, by rw [HX.out]; simp, ⟨_, _, _, _, _, _, _, _, _, _, _, _, _, _, _, _, _, _, _, _, _, _, _, _, rfl⟩, HJ.out⟩)
        · have HJ := Lib.hid hj2
          clear hj2
          gi_wp2
          exact leave_none ⟨_, results_none rfl _ _ _, ⟨_, rfl⟩, fun _ => False, fun k h => h, .inr ⟨pre, _, _, HX.out, HJ.out⟩⟩
      case neg =>
        have hto := fun W => cut_to 9 Tryd.underlying9 rest (endP rest) he.2 W
        have hfrom := fun W => cut_from 9 Tryd.underlying9 rest (endP rest) he.2 W
        obtain ⟨j, hje⟩ : ∃ j : Nat, Lib.indexByte rest 10 = j := ⟨(Lib.indexByte rest 10).toNat, by have := Lib.indexByte_ge rest 10; omega⟩
        have hee : endP rest = j + 1 := by unfold endP; rw [if_neg hj, hje, Int.toNat_natCast]
        have hjl : j + 1 ≤ 1000001 := by omega
        rw [hee] at hto hfrom
        rw [show ((j + 1 : Nat) : Int) = (j : Int) + 1 by omega] at hto hfrom
        rw [hje] at HC
        have hj0 : ((j : Int) + 1 == 0) = false := by rw [beq_eq_false_iff_ne]; omega
        have hj1 : ¬ (j : Int) + 1 = 0 := by omega
        rw [hee] at hy HX HW
        clear hj hje
        gi_wp2_with (refine ⟨trivial, ?_⟩; gi_at_call 26; refine (callsIn_wide.2 (HC.out _)).mono ?_; rintro e V ⟨rfl, rfl⟩)
        refine HW.out.mono ?_
        rintro e W2 ⟨_, ⟨rfl, hj2⟩ | ⟨rfl, hj2⟩⟩
        · have HJ := Lib.hid hj2
          clear hj2
          gi_wp2
          exact Handed.intro ((rest.drop (j + 1)) : Str).length (by have := he.1; rw [List.length_drop]; omega) (hJ' _ _ _ ⟨pre ++ [(k, rest.take (j + 1))], k + 1, (rest.drop (j + 1)), rfl, by rw [List.length_drop]; omega, by rw [HX.out]; simp, ⟨_, _, _, _, _, _, _, _, _, _, _, _, _, _, _, _, _, _, _, _, _, _, _, _, rfl⟩, HJ.out⟩)
        · have HJ := Lib.hid hj2
          clear hj2
          gi_wp2
          exact leave_none ⟨_, results_none rfl _ _ _, ⟨_, rfl⟩, fun _ => False, fun k h => h, .inr ⟨pre, _, _, HX.out, HJ.out⟩⟩
end Pc
end Go.Proofs.YtgoegdlhbadlfaaDoor
