/- Package sched: a board; has, Does, Take, Give. -/
import Derived.Test.YtpfcghigfkhimaaSched1
import Derived.Deep.QuietTactic
import Derived.BigQuiet
import Derived.Deep.LoopGhost
namespace Go.Proofs.Ytpfcghigfkhimaa
open Go.RowKit

/-- A board in block g: its slots' blocks, and what each holds. -/
structure Brd (w : World) (g sb : Nat) (chs : List Nat) (st : List (Option Int)) : Prop where
  ptr : w.cell? ⟨g, 0, none⟩ = some (.slice (some ⟨sb, 0, none⟩) chs.length chs.length)
  len : st.length = chs.length
  row : ∀ (i c : Nat), chs[i]? = some c → w.cell? ⟨sb, i, none⟩ = some (.chan (some c))
  slots : ∀ (i c : Nat) (o : Option Int), chs[i]? = some c → st[i]? = some o → Slot w c o
  nodup : chs.Nodup
  gne : g ∉ chs
  sbne : sb ∉ chs
  few : chs.length ≤ 16
  pos : 1 ≤ chs.length
/-- The slots' cells. -/
def bF (chs : List Nat) : Foot := fun k _ => k ∈ chs
section
variable {w w' : World} {g sb : Nat} {chs : List Nat} {st : List (Option Int)}
theorem Brd.fr {S : Foot} (h : Brd w g sb chs st) (hf : Fr S w w') (hg : ∀ o, ¬ S g o) (hs : ∀ o, ¬ S sb o) (hc : ∀ c ∈ chs, ∀ o, ¬ S c o) : Brd w' g sb chs st :=
  ⟨cell_fr hf h.ptr (hg 0), h.len, fun i c hi => cell_fr hf (h.row i c hi) (hs i), fun i c o hi ho => (h.slots i c o hi ho).fr hf (hc c (List.mem_of_getElem? hi)), h.nodup, h.gne, h.sbne, h.few, h.pos⟩
theorem Brd.later (h : Brd w g sb chs st) (hb : Below w.heap.size w w') : Brd w' g sb chs st := h.fr (Fr.ofBelow hb noCells) (fun _ h => h) (fun _ h => h) (fun _ _ _ h => h)
theorem Brd.set (h : Brd w g sb chs st) {i c : Nat} {o : Option Int} (hi : chs[i]? = some c) (hf : Fr (fun k _ => k = c) w w') (hs : Slot w' c o) : Brd w' g sb chs (st.set i o) ∧ Fr (bF chs) w w' := by
  have hm := List.mem_of_getElem? hi
  refine ⟨⟨cell_fr hf h.ptr (fun e => h.gne (e ▸ hm)), by rw [List.length_set]; exact h.len, fun j d hj => cell_fr hf (h.row j d hj) (fun e => h.sbne (e ▸ hm)), fun j d p hj hp => ?_, h.nodup, h.gne, h.sbne, h.few, h.pos⟩, hf.mono (fun b _ e => e ▸ hm)⟩
  by_cases e : j = i
  · subst e
    rw [hi] at hj
    obtain rfl := Option.some.inj hj
    have hlt : j < st.length := by
      have := (List.getElem?_eq_some_iff.1 hi).1
      have := h.len
      omega
    rw [List.getElem?_set_self hlt] at hp
    obtain rfl := Option.some.inj hp
    exact hs
  · rw [List.getElem?_set_ne (fun e2 => e e2.symm)] at hp
    refine (h.slots j d p hj hp).fr hf (fun _ e2 => ?_)
    subst e2
    have h1 := List.getElem?_eq_some_iff.1 hi
    have h2 := List.getElem?_eq_some_iff.1 hj
    obtain ⟨l1, e1⟩ := h1
    obtain ⟨l2, e2⟩ := h2
    have hp := List.pairwise_iff_getElem.1 h.nodup
    rcases Nat.lt_trichotomy j i with hlt | hlt | hlt
    · exact hp j i l2 l1 hlt (e2.trans e1.symm)
    · exact e hlt
    · exact hp i j l1 l2 hlt (e1.trans e2.symm)
theorem Brd.same (h : Brd w g sb chs st) {st' : List (Option Int)} (e : st' = st) : Brd w g sb chs st' := e ▸ h
end
/-- What a worker does. -/
def look (st : List (Option Int)) (v : Int) : Option Int := if 0 ≤ v then (st[v.toNat]?).join else none
def inB (st : List (Option Int)) (v : Int) : Bool := decide (0 ≤ v ∧ v < st.length)
theorem look_out {st : List (Option Int)} {v : Int} (h : inB st v = false) : look st v = none := by
  unfold inB at h
  unfold look
  simp only [decide_eq_false_iff_not] at h
  split
  · rw [List.getElem?_eq_none (by omega)]; rfl
  · rfl
theorem look_at {st : List (Option Int)} {v : Int} (h : inB st v = true) : ∃ i : Nat, v = (i : Int) ∧ i < st.length ∧ st[i]? = some (look st v) := by
  unfold inB at h
  simp only [decide_eq_true_eq] at h
  refine ⟨v.toNat, by omega, by omega, ?_⟩
  unfold look
  rw [if_pos h.1, List.getElem?_eq_getElem (by omega)]
  rfl

section
variable (g sb : Nat) (chs : List Nat) (st : List (Option Int))
theorem has_any (v : Int) (w : World) (h : Brd w g sb chs st) :
    Calls Try.prog 21 #[.pointer (some ⟨g, 0, none⟩), .int .i64 v] w fun e w' => e = .returned (.bool (inB st v)) ∧ w = w' := by
  have hp := h.ptr
  have hlen := h.len
  by_cases h0 : 0 ≤ v
  · by_cases h1 : v < chs.length
    · have hr : inB st v = true := by unfold inB; simp only [decide_eq_true_eq]; omega
      rw [hr]
      clear hr h hlen
      go_enter Try.func21, Try.ntmps21
      go_wp2
      go_ret
      exact ⟨by first | rfl | (simp; done) | (simp; omega), rfl⟩
    · have hr : inB st v = false := by unfold inB; simp only [decide_eq_false_iff_not]; omega
      rw [hr]
      clear hr h hlen
      go_enter Try.func21, Try.ntmps21
      go_wp2
      go_ret
      exact ⟨by first | rfl | (simp; done) | (simp; omega), rfl⟩
  · have hr : inB st v = false := by unfold inB; simp only [decide_eq_false_iff_not]; omega
    rw [hr]
    clear hr h hlen
    go_enter Try.func21, Try.ntmps21
    go_wp2
    go_ret
    exact ⟨rfl, rfl⟩
theorem does_nil (v : Int) (w : World) : Calls Try.prog 12 #[.pointer none, .int .i64 v] w fun e w' => e = .returned (.tuple #[.int .i64 0, .bool false]) ∧ w = w' := by
  go_enter Try.func12, Try.ntmps12
  go_wp2
  go_ret2
  exact ⟨rfl, rfl⟩
theorem does_none (v : Int) (hl : look st v = none) (w : World) (h : Brd w g sb chs st) :
    Calls Try.prog 12 #[.pointer (some ⟨g, 0, none⟩), .int .i64 v] w fun e w' => e = .returned (.tuple #[.int .i64 0, .bool false]) ∧ w = w' := by
  have HH := Lib.hid (has_any g sb chs st v w h)
  by_cases hi : inB st v = true
  · rw [hi] at HH
    obtain ⟨i, rfl, hlt, hst⟩ := look_at hi
    rw [hl] at hst
    have hlen := h.len
    obtain ⟨c, hc⟩ : ∃ c, chs[i]? = some c := ⟨_, List.getElem?_eq_getElem (by omega)⟩
    have hp := h.ptr
    have hr := h.row i c hc
    have HL := Lib.hid (lift_none c w (h.slots i c none hc hst))
    have i0 : (0 : Int) ≤ (i : Int) := by omega
    have i1 : (i : Int) < (chs.length : Int) := by omega
    clear h hi hl hst hc hlen
    go_enter Try.func12, Try.ntmps12
    go_wp2_with (first
      | (go_at_call 21; refine HH.out.mono ?_; rintro e w1 ⟨rfl, rfl⟩)
      | (go_at_call 23; refine HL.out.mono ?_; rintro e w1 ⟨rfl, rfl⟩))
    go_ret2
    exact ⟨rfl, rfl⟩
  · have hi' : inB st v = false := by simpa using hi
    rw [hi'] at HH
    clear h hi hi' hl
    go_enter Try.func12, Try.ntmps12
    go_wp2_with (first
      | (go_at_call 21; refine HH.out.mono ?_; rintro e w1 ⟨rfl, rfl⟩))
    go_ret2
    exact ⟨rfl, rfl⟩
theorem does_some (v n : Int) (hl : look st v = some n) (w : World) (h : Brd w g sb chs st) :
    Calls Try.prog 12 #[.pointer (some ⟨g, 0, none⟩), .int .i64 v] w fun e w' => e = .returned (.tuple #[.int .i64 n, .bool true]) ∧ Brd w' g sb chs st ∧ Fr (bF chs) w w' := by
  have HH := Lib.hid (has_any g sb chs st v w h)
  have hi : inB st v = true := by
    cases hb : inB st v with
    | true => rfl
    | false => rw [look_out hb] at hl; cases hl
  rw [hi] at HH
  obtain ⟨i, rfl, hlt, hst⟩ := look_at hi
  rw [hl] at hst
  have hlen := h.len
  obtain ⟨c, hc⟩ : ∃ c, chs[i]? = some c := ⟨_, List.getElem?_eq_getElem (by omega)⟩
  have hp := h.ptr
  have hr := h.row i c hc
  have HL := Lib.hid (lift_has c n w (h.slots i c (some n) hc hst))
  have i0 : (0 : Int) ≤ (i : Int) := by omega
  have i1 : (i : Int) < (chs.length : Int) := by omega
  have HB := Lib.hid h
  have HC := Lib.hid (And.intro hc hst)
  clear h hi hl hst hc hlen
  go_enter Try.func12, Try.ntmps12
  go_wp2_with (first
    | (go_at_call 21; refine HH.out.mono ?_; rintro e w1 ⟨rfl, rfl⟩)
    | (go_at_call 23; refine HL.out.mono ?_; rintro e w1 ⟨rfl, hs1, hf1⟩; have H1 := Lib.hid (HB.out.set HC.out.1 hf1 hs1); have HS := Lib.hid hs1; have p1 := H1.out.1.ptr; have r1 := H1.out.1.row i c HC.out.1; clear hs1 hf1)
    | (go_at_call 22; refine (lay_room c n _ HS.out).mono ?_; rintro e w2 ⟨rfl, hs2, hf2⟩; have H2 := Lib.hid (H1.out.1.set HC.out.1 hf2 hs2); clear hs2 hf2))
  go_ret2
  have h2 := H2.out
  rw [List.set_set] at h2
  refine ⟨rfl, h2.1.same ?_, H1.out.2.trans h2.2 (fun b o hb => .inl hb)⟩
  have hst := HC.out.2
  obtain ⟨hl2, e⟩ := List.getElem?_eq_some_iff.1 hst
  rw [← e, List.set_getElem_self]
end
end Go.Proofs.Ytpfcghigfkhimaa
