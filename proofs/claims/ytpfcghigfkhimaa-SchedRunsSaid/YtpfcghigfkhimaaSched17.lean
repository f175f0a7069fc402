/- One contract for each call of a board, and of the checker's list: Give, Take, Does; a new list. -/
import Derived.Test.YtpfcghigfkhimaaSched16
namespace Go.Proofs.Ytpfcghigfkhimaa
open Go.RowKit

def giveF (st : List (Option Int)) (v id : Int) : Int := if inB st v = false then 10 else if look st v ≠ none then 16 else if some id ∈ st then 15 else 0
def giveS (st : List (Option Int)) (v id : Int) : List (Option Int) := if inB st v = true ∧ look st v = none ∧ some id ∉ st then st.set v.toNat (some id) else st
def takeF (st : List (Option Int)) (v : Int) : Int := if inB st v = false then 10 else if look st v = none then 14 else 0
def takeS (st : List (Option Int)) (v : Int) : List (Option Int) := if look st v = none then st else st.set v.toNat none
theorem giveS_length (st : List (Option Int)) (v id : Int) : (giveS st v id).length = st.length := by unfold giveS; split <;> simp
theorem takeS_length (st : List (Option Int)) (v : Int) : (takeS st v).length = st.length := by unfold takeS; split <;> simp
theorem giveS_wf {st : List (Option Int)} {v id : Int} (h : WfO st) (hid : (Lit.int .i64 id).wf = true) : WfO (giveS st v id) := by
  unfold giveS
  split
  · exact h.set _ _ (fun x hx => by cases hx; exact hid)
  · exact h
theorem takeS_wf {st : List (Option Int)} {v : Int} (h : WfO st) : WfO (takeS st v) := by
  unfold takeS
  split
  · exact h
  · exact h.set _ _ (fun x hx => by cases hx)
section
variable (g sb : Nat) (chs : List Nat) (st : List (Option Int))
theorem give_uni (v id : Int) (w : World) (h : Brd w g sb chs st) :
    Calls Try.prog 10 #[.pointer (some ⟨g, 0, none⟩), .int .i64 v, .int .i64 id] w fun e w' => e = .returned (.int .i64 (giveF st v id)) ∧ Brd w' g sb chs (giveS st v id) ∧ Fr (bF chs) w w' := by
  unfold giveF giveS
  cases hi : inB st v with
  | false => exact (give_range g sb chs st v id hi w h).mono fun e w' ⟨h1, h2⟩ => ⟨by simpa using h1, by simpa using h2 ▸ h, h2 ▸ Fr.refl _ _⟩
  | true =>
    cases hl : look st v with
    | some n => exact (give_full g sb chs st v id n hl w h).mono fun e w' ⟨h1, h2, h3⟩ => ⟨by simpa using h1, by simpa using h2, h3⟩
    | none =>
      by_cases ht : some id ∈ st
      · exact (give_there g sb chs st v id hi hl ht w h).mono fun e w' ⟨h1, h2, h3⟩ => ⟨by simpa [ht] using h1, by simpa [ht] using h2, h3⟩
      · exact (give_ok g sb chs st v id hi hl ht w h).mono fun e w' ⟨h1, h2, h3⟩ => ⟨by simpa [ht] using h1, by simpa [ht] using h2, h3⟩
theorem take_uni (v : Int) (w : World) (h : Brd w g sb chs st) :
    Calls Try.prog 17 #[.pointer (some ⟨g, 0, none⟩), .int .i64 v] w fun e w' => e = .returned (.tuple #[.int .i64 ((look st v).getD 0), .int .i64 (takeF st v)]) ∧ Brd w' g sb chs (takeS st v) ∧ Fr (bF chs) w w' := by
  unfold takeF takeS
  cases hi : inB st v with
  | false => exact (take_range g sb chs st v hi w h).mono fun e w' ⟨h1, h2⟩ => ⟨by simpa [look_out hi] using h1, by simpa [look_out hi] using h2 ▸ h, h2 ▸ Fr.refl _ _⟩
  | true =>
    cases hl : look st v with
    | some n => exact (take_some g sb chs st v n hl w h).mono fun e w' ⟨h1, h2, h3⟩ => ⟨by simpa using h1, by simpa using h2, h3⟩
    | none => exact (take_none g sb chs st v hi hl w h).mono fun e w' ⟨h1, h2⟩ => ⟨by simpa using h1, by simpa using h2 ▸ h, h2 ▸ Fr.refl _ _⟩
theorem does_uni (v : Int) (w : World) (h : Brd w g sb chs st) :
    Calls Try.prog 12 #[.pointer (some ⟨g, 0, none⟩), .int .i64 v] w fun e w' => e = .returned (.tuple #[.int .i64 ((look st v).getD 0), .bool (look st v).isSome]) ∧ Brd w' g sb chs st ∧ Fr (bF chs) w w' := by
  cases hl : look st v with
  | some n => exact does_some g sb chs st v n hl w h
  | none => exact (does_none g sb chs st v hl w h).mono fun e w' ⟨h1, h2⟩ => ⟨by simpa using h1, h2 ▸ h, h2 ▸ Fr.refl _ _⟩
end
section
variable (a : Option Addr) (c n : Nat) (st : List (Option Int))
/-- What the checker's Give and Take hand back. -/
def RefGives (n : Nat) (w w' : World) (e : Ending) (st' : List (Option Int)) (f : Value → Value) : Prop := ∃ a' c', e = .returned (f (.slice a' n c')) ∧ Rd w' 2 a' n c' (wksV st') ∧ Below w.heap.size w w'
theorem RefGives.of {n : Nat} {w w' : World} {e : Ending} {st st' : List (Option Int)} {f : Value → Value} (hl : st.length = n) (hs : st'.length = st.length) (h : Anew w w' e st' f) : RefGives n w w' e st' f := by
  obtain ⟨a', c', h1, h2, h3⟩ := h
  rw [hs, hl] at h1 h2
  exact ⟨a', c', h1, h2, h3⟩
theorem refGive_uni (hl : st.length = n) (hn : n ≤ 16) (v id : Int) (w : World) (h : Rd w 2 a n c (wksV st)) :
    Calls Try.prog 15 #[.slice a n c, .int .i64 v, .int .i64 id] w fun e w' => RefGives n w w' e (giveS st v id) fun x => .tuple #[x, .int .i64 (giveF st v id)] := by
  subst hl
  unfold giveF giveS
  cases hi : inB st v with
  | false => exact (refGive_out a c st v id hn hi w).mono fun e w' ⟨h1, h2⟩ => ⟨a, c, by simpa using h1, by simpa using h2 ▸ h, h2 ▸ Below.refl _ _⟩
  | true =>
    obtain ⟨i, rfl, hlt, hx⟩ := look_at hi
    cases hl : look st (i : Int) with
    | some d =>
      rw [hl] at hx
      exact (refGive_full a c st i id d hn hlt hx w h).mono fun e w' ⟨h1, h2⟩ => ⟨a, c, by simpa using h1, by simpa using h2 ▸ h, h2 ▸ Below.refl _ _⟩
    | none =>
      rw [hl] at hx
      by_cases ht : some id ∈ st
      · exact (refGive_there a c st i id hn hlt hx ht w h).mono fun e w' ⟨h1, h2⟩ => ⟨a, c, by simpa [ht] using h1, by simpa [ht] using h2 ▸ h, h2 ▸ Below.refl _ _⟩
      · exact (refGive_ok a c st i id hn hlt hx ht w h).mono fun e w' h1 => by
          have := RefGives.of (st := st) rfl (by simp) h1
          simpa [ht] using this
theorem refTake_uni (hl : st.length = n) (hn : n ≤ 16) (v : Int) (w : World) (h : Rd w 2 a n c (wksV st)) :
    Calls Try.prog 16 #[.slice a n c, .int .i64 v] w fun e w' => RefGives n w w' e (takeS st v) fun x => .tuple #[x, .int .i64 ((look st v).getD 0), .int .i64 (takeF st v)] := by
  subst hl
  unfold takeF takeS
  cases hi : inB st v with
  | false => exact (refTake_out a c st v hn hi w).mono fun e w' ⟨h1, h2⟩ => ⟨a, c, by simpa [look_out hi] using h1, by simpa [look_out hi] using h2 ▸ h, h2 ▸ Below.refl _ _⟩
  | true =>
    obtain ⟨i, rfl, hlt, hx⟩ := look_at hi
    cases hl : look st (i : Int) with
    | none =>
      rw [hl] at hx
      exact (refTake_none a c st i hn hlt hx w h).mono fun e w' ⟨h1, h2⟩ => ⟨a, c, by simpa using h1, by simpa using h2 ▸ h, h2 ▸ Below.refl _ _⟩
    | some d =>
      rw [hl] at hx
      exact (refTake_some a c st i d hn hlt hx w h).mono fun e w' h1 => by
        have := RefGives.of (st := st) rfl (by simp) h1
        simpa using this
theorem idle_uni (hl : st.length = n) (hn : n ≤ 16) (w : World) (h : Rd w 2 a n c (wksV st)) (I : List Int) (hI : I = idleL st n) (m : Nat) (hm : m = I.length) :
    Calls Try.prog 18 #[.slice a n c] w fun e w' => ∃ a' c', e = .returned (.slice a' m c') ∧ Rd w' 1 a' m c' (intsV I) ∧ Below w.heap.size w w' := by
  subst hl hI hm
  exact lawIdle_any a c st hn w h
theorem acts_uni (b : Bool) (ar : Option Addr) (cr : Nat) (ready : List Int) (hl : st.length = n) (hn : n ≤ 16) (hm : ready.length ≤ 1000) (w : World) (h : Rd w 2 a n c (wksV st)) (hr : Rd w 1 ar ready.length cr (intsV ready)) (L : List ActT) (hL : L = actsL st n b ready) (m : Nat) (hm : m = L.length) :
    Calls Try.prog 20 #[.slice a n c, .bool b, .slice ar ready.length cr] w fun e w' => ∃ a c, e = .returned (.slice a m c) ∧ Rd w' 3 a m c (actsV L) ∧ Below w.heap.size w w' := by
  subst hl hL hm
  exact refActs_any b a c st ar cr ready hn ‹_› w h hr
end
theorem made_wks (n : Nat) (h1 : 1 ≤ n) (h2 : n ≤ 16) : (madeCells (Value.agg #[.int .i64 0, .bool false]).cells (n * 2)).toList = wksV (List.replicate n none) := by
  have : n = 1 ∨ n = 2 ∨ n = 3 ∨ n = 4 ∨ n = 5 ∨ n = 6 ∨ n = 7 ∨ n = 8 ∨ n = 9 ∨ n = 10 ∨ n = 11 ∨ n = 12 ∨ n = 13 ∨ n = 14 ∨ n = 15 ∨ n = 16 := by omega
  rcases this with rfl | rfl | rfl | rfl | rfl | rfl | rfl | rfl | rfl | rfl | rfl | rfl | rfl | rfl | rfl | rfl 
  all_goals (show Array.toList _ = wksV _; kernel_rfl)
theorem make_wks (n : Nat) (h1 : 1 ≤ n) (h2 : n ≤ 16) : ∃ M : Array Value, (∀ W : World, (Instr.makeSlice 41 (.int .i64 (n : Int)) (.int .i64 (n : Int))).run Try.prog W = .ok (.slice (some ⟨W.heap.size, 0, none⟩) n n) (W.alloc (.cells M 51))) ∧
    ∀ W : World, Rd (W.alloc (.cells M 51)) 2 (some ⟨W.heap.size, 0, none⟩) n n (wksV (List.replicate n none)) := by
  obtain ⟨i0, hi, hz0, hz1, hz2⟩ := info_parts Try.infoWk
  obtain ⟨M, hM⟩ : ∃ M, M = madeCells (Value.agg #[.int .i64 0, .bool false]).cells (((n : Nat) : Int).toNat * i0.size) := ⟨_, rfl⟩
  have hML : M.toList = wksV (List.replicate n none) := by rw [hM, hz1, Int.toNat_natCast]; exact made_wks n h1 h2
  refine ⟨M, fun W => ?_, fun W => ?_⟩
  · have h := run_make (P := Try.prog) W 41 51 i0 (.agg #[.int .i64 0, .bool false]) Try.underlying41 hi hz0 .i64 .i64 (n : Int) (n : Int) (by omega) (by omega) (by rw [hz2]; omega) (by omega)
    rw [← hM] at h
    simpa using h
  · have := Rd.made W (wksV (List.replicate n none)) 51 2 n (by rw [wksV_length, List.length_replicate]) (by unfold maxLen; omega) (wksV_one _) (0, 0)
    rw [← hML, Array.toArray_toList] at this
    rwa [hML] at this
end Go.Proofs.Ytpfcghigfkhimaa
