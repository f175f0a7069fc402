/- The laws of package sched: SchedGrows. -/
import Derived.Test.YtpfcghigfkhimaaSched10
namespace Go.Proofs.Ytpfcghigfkhimaa
open Go.RowKit

section
variable (g sb : Nat) (chs : List Nat) (st : List (Option Int))
theorem WfO.set {st : List (Option Int)} (h : WfO st) (i : Nat) (o : Option Int) (ho : ∀ x, o = some x → (Lit.int .i64 x).wf = true) : WfO (st.set i o) := by
  intro p hp x hx
  rcases List.mem_or_eq_of_mem_set hp with h1 | h1
  · exact h p h1 x hx
  · subst h1; exact ho x hx
/-- Whatever Give answers. -/
theorem give_any (v id : Int) (hid : (Lit.int .i64 id).wf = true) (hwf : WfO st) (w : World) (h : Brd w g sb chs st) :
    Calls Try.prog 10 #[.pointer (some ⟨g, 0, none⟩), .int .i64 v, .int .i64 id] w fun e w' => ∃ f st', e = .returned (.int .i64 f) ∧ Brd w' g sb chs st' ∧ Fr (bF chs) w w' ∧ WfO st' := by
  cases hi : inB st v with
  | false => exact (give_range g sb chs st v id hi w h).mono fun e w' ⟨h1, h2⟩ => ⟨_, st, h1, h2 ▸ h, h2 ▸ Fr.refl _ _, hwf⟩
  | true =>
    cases hl : look st v with
    | some n => exact (give_full g sb chs st v id n hl w h).mono fun e w' ⟨h1, h2, h3⟩ => ⟨_, st, h1, h2, h3, hwf⟩
    | none =>
      by_cases ht : some id ∈ st
      · exact (give_there g sb chs st v id hi hl ht w h).mono fun e w' ⟨h1, h2, h3⟩ => ⟨_, st, h1, h2, h3, hwf⟩
      · exact (give_ok g sb chs st v id hi hl ht w h).mono fun e w' ⟨h1, h2, h3⟩ => ⟨_, _, h1, h2, h3, hwf.set _ _ (fun x hx => by cases hx; exact hid)⟩
/-- Acts, its numbers told apart from its list. -/
theorem acts_k (b : Bool) (ar : Option Addr) (cr k n N : Nat) (ready : List Int) (L : List ActT) (hk : ready.length = k) (hc : chs.length = n) (hL : actsL st n b ready = L) (hN : L.length = N) (hn : k ≤ 1000) (w : World) (h : Brd w g sb chs st) (hr : Rd w 1 ar k cr (intsV ready)) (hws : WfO st) (hwr : WfI ready) :
    Calls Try.prog 11 #[.pointer (some ⟨g, 0, none⟩), .bool b, .slice ar k cr] w fun e w' => ∃ a c, e = .returned (.slice a N c) ∧ Rd w' 3 a N c (actsV L) ∧ Brd w' g sb chs st ∧ Fr (bF chs) w w' := by
  subst hk hc hL hN
  exact acts_any b g sb chs st ar cr ready hn w h hr hws hwr
end
theorem New.keep {w0 w w' : World} {g sb : Nat} {chs : List Nat} {st : List (Option Int)} (h : New w0 w g sb chs st) {size n c : Nat} {a : Option Addr} {vs : List Value} (hr : Rd w size a n c vs) (hf : Fr (bF chs) w w') : Rd w' size a n c vs :=
  hr.fr hf (fun b o u hc => h.brd.no_cell hc)

/-! The plain law. -/
theorem startsL_append (il seen p q : List Int) : ∃ seen', startsL il seen (p ++ q) = startsL il seen p ++ startsL il seen' q ∧ ∀ x, x ∈ seen' ↔ x ∈ seen ∨ x ∈ p := by
  induction p generalizing seen with
  | nil => exact ⟨seen, by simp [startsL], by simp⟩
  | cons y p ih =>
    rw [List.cons_append, startsL, startsL]
    split
    · rename_i hc
      obtain ⟨s, h1, h2⟩ := ih seen
      refine ⟨s, h1, fun x => ?_⟩
      rw [h2, List.mem_cons]
      have : y ∈ seen := by simpa using hc
      constructor
      · rintro (h | h)
        · exact .inl h
        · exact .inr (.inr h)
      · rintro (h | rfl | h)
        · exact .inl h
        · exact .inl this
        · exact .inr h
    · obtain ⟨s, h1, h2⟩ := ih (seen ++ [y])
      refine ⟨s, by rw [h1, List.append_assoc], fun x => ?_⟩
      rw [h2, List.mem_append, List.mem_singleton, List.mem_cons, or_assoc]
theorem startsL_id (il seen p : List Int) : ∀ x ∈ startsL il seen p, x.2.2 ∈ p := by
  induction p generalizing seen with
  | nil => intro x hx; cases hx
  | cons y p ih =>
    intro x hx
    rw [startsL] at hx
    split at hx
    · exact List.mem_cons_of_mem _ (ih _ x hx)
    · rcases List.mem_append.1 hx with h | h
      · unfold startsOf at h
        obtain ⟨v, _, rfl⟩ := List.mem_map.1 h
        exact List.mem_cons_self ..
      · exact List.mem_cons_of_mem _ (ih _ x h)
/-- One more number. -/
theorem acts_more (st : List (Option Int)) (n : Nat) (p : List Int) (last : Int) :
    ∃ S F : List ActT, actsL st n false p = S ++ F ∧
      (((p.contains last || (busyL st n).contains last) = true ∧ actsL st n false (p ++ [last]) = S ++ F) ∨
       ((p.contains last || (busyL st n).contains last) = false ∧ actsL st n false (p ++ [last]) = S ++ startsOf (idleL st n) last ++ F ∧ ∀ x ∈ S, x.2.2 ≠ last)) := by
  obtain ⟨s, h1, h2⟩ := startsL_append (idleL st n) (busyL st n) p [last]
  refine ⟨startsL (idleL st n) (busyL st n) p, finL st n, by simp [actsL], ?_⟩
  cases hb : (p.contains last || (busyL st n).contains last) with
  | true =>
    refine .inl ⟨rfl, ?_⟩
    have : s.contains last = true := by
      rw [List.contains_iff_mem, h2]
      rw [Bool.or_eq_true, List.contains_iff_mem, List.contains_iff_mem] at hb
      exact hb.symm
    simp only [actsL, h1, startsL, this]
    simp
  | false =>
    rw [Bool.or_eq_false_iff] at hb
    have hp : last ∉ p := by simpa using hb.1
    have hbz : last ∉ busyL st n := by simpa using hb.2
    have : s.contains last = false := by
      rw [← Bool.not_eq_true, List.contains_iff_mem, h2]
      exact fun h => h.elim hbz hp
    refine .inr ⟨rfl, ?_, fun x hx e => hp (e ▸ startsL_id _ _ _ x hx)⟩
    simp only [actsL, h1, startsL, this]
    simp
/-- Where the comparing stands. -/
def At (s l m k : Nat) : Prop := m ≤ l ∧ ((m = 0 ∧ k ≤ s) ∨ k = s ∨ (m = l ∧ s ≤ k))
theorem at_step {S F : List ActT} {il : List Int} {last : Int} (hS : ∀ x ∈ S, x.2.2 ≠ last) {m k : Nat} (h : At S.length il.length m k) (hlt : m + k < (S ++ startsOf il last ++ F).length) :
    (m < il.length ∧ ∃ x : ActT, (S ++ startsOf il last ++ F)[m + k]? = some x ∧ x.2.2 ≠ last ∧ (S ++ F)[k]? = some x ∧ At S.length il.length m (k + 1) ∧ ∃ v, il[m]? = some v) ∨
    (m < il.length ∧ ∃ v, il[m]? = some v ∧ (S ++ startsOf il last ++ F)[m + k]? = some (2, v, last) ∧ At S.length il.length (m + 1) k) ∨
    (m = il.length ∧ ∃ x : ActT, (S ++ startsOf il last ++ F)[m + k]? = some x ∧ (S ++ F)[k]? = some x ∧ At S.length il.length m (k + 1)) := by
  have hsl : (startsOf il last).length = il.length := by simp [startsOf]
  rw [List.length_append, List.length_append, hsl] at hlt
  obtain ⟨h1, h2⟩ := h
  by_cases hk : k < S.length
  · have hm : m = 0 := by omega
    subst hm
    have e1 : (S ++ startsOf il last ++ F)[0 + k]? = S[k]? := by
      rw [List.append_assoc, Nat.zero_add, List.getElem?_append_left hk]
    have e2 : (S ++ F)[k]? = S[k]? := List.getElem?_append_left hk
    have e3 : S[k]? = some S[k] := List.getElem?_eq_getElem hk
    by_cases hz : 0 < il.length
    · exact .inl ⟨hz, S[k], by rw [e1, e3], hS _ (List.getElem_mem hk), by rw [e2, e3], ⟨h1, .inl ⟨rfl, hk⟩⟩, _, List.getElem?_eq_getElem hz⟩
    · exact .inr (.inr ⟨by omega, S[k], by rw [e1, e3], by rw [e2, e3], ⟨h1, .inl ⟨rfl, hk⟩⟩⟩)
  · have hks : S.length ≤ k := by omega
    by_cases hml : m < il.length
    · have hk2 : k = S.length := by omega
      subst hk2
      refine .inr (.inl ⟨hml, il[m], List.getElem?_eq_getElem hml, ?_, ⟨hml, .inr (.inl rfl)⟩⟩)
      rw [List.append_assoc, List.getElem?_append_right (by omega), List.getElem?_append_left (by omega), Nat.add_sub_cancel]
      unfold startsOf
      rw [List.getElem?_map, List.getElem?_eq_getElem hml]
      rfl
    · have hm : m = il.length := by omega
      have hF : k - S.length < F.length := by omega
      refine .inr (.inr ⟨hm, F[k - S.length], ?_, ?_, ⟨h1, .inr (.inr ⟨hm, by omega⟩)⟩⟩)
      · rw [List.append_assoc, List.getElem?_append_right (by omega), List.getElem?_append_right (by omega), hsl, show m + k - S.length - il.length = k - S.length by omega]
        exact List.getElem?_eq_getElem hF
      · rw [List.getElem?_append_right (by omega)]
        exact List.getElem?_eq_getElem hF
theorem at_end {s l f m k : Nat} (h : At s l m k) (e : m + k = s + l + f) : m = l ∧ k = s + f := by
  obtain ⟨h1, h2⟩ := h
  omega

theorem acts_len (st : List (Option Int)) (n : Nat) (b : Bool) (p : List Int) : (actsL st n b p).length ≤ 1 + n * p.length + n := by
  have h1 := startsL_len (idleL st n) (busyL st n) p
  have h2 := idleL_len st n
  have h3 := (finL_len st n).1
  have h4 := Nat.mul_le_mul_right p.length h2
  unfold actsL
  rw [List.length_append, List.length_append]
  cases b <;> simp <;> omega
theorem mul_small {n k : Nat} (h1 : n ≤ 16) (h2 : k ≤ 20) : n * k ≤ 320 := Nat.mul_le_mul h1 h2
set_option maxRecDepth 100000 in
set_option maxHeartbeats 4000000 in
theorem schedGrows_walk (v : Int) (a1 : Option Addr) (c1 : Nat) (D : List Int) (a2 : Option Addr) (c2 : Nat) (R : List Int) (w : World) (h1 : Rd w 1 a1 D.length c1 (intsV D)) (hw1 : WfI D) (h2 : Rd w 1 a2 R.length c2 (intsV R)) (hw2 : WfI R) :
    Calls Try.prog 3 #[.int .i64 v, .slice a1 D.length c1, .slice a2 R.length c2] w (Yes w) := by
  by_cases hv : v < 1 ∨ 16 < v
  · have HN := Lib.hid (new_bad v hv)
    clear h1 h2 hv hw1 hw2
    go_enter Try.func3, Try.ntmps3
    go_wp2_with (first
      | (go_at_call 8; refine (HN.out _).mono ?_; rintro e w1 ⟨rfl, rfl⟩)
      | (go_at_call 9; refine (awake_any _).mono ?_; rintro e w4 ⟨rfl, hb⟩; have H4 := Lib.hid hb; clear hb))
    go_ret
    exact ⟨rfl, H4.out⟩
  obtain ⟨n, rfl⟩ : ∃ n : Nat, v = (n : Int) := ⟨v.toNat, by omega⟩
  have HN := Lib.hid (fun w => new_any n (by omega) (by omega) w)
  by_cases hD : 16 < D.length
  · have hD' : (16 : Int) < (D.length : Int) := by omega
    clear h1 h2 hw1 hw2 hv
    go_enter Try.func3, Try.ntmps3
    go_wp2_with (first
      | (go_at_call 8; refine (HN.out _).mono ?_; rintro e w1 ⟨g, sb, chs, rfl, hb, hl, h1, h2, h3⟩; have H1 := Lib.hid hl; clear hb hl h1 h2 h3)
      | (go_at_call 9; refine (awake_any _).mono ?_; rintro e w4 ⟨rfl, hb⟩; have H4 := Lib.hid (H1.out.trans (hb.mono H1.out.size)); clear hb))
    go_ret
    exact ⟨rfl, H4.out⟩
  have hD' : (D.length : Int) ≤ 16 := by omega
  by_cases hR0 : R.length < 1
  · have hR' : (R.length : Int) < 1 := by omega
    clear h1 h2 hw1 hw2 hv
    go_enter Try.func3, Try.ntmps3
    go_wp2_with (first
      | (go_at_call 8; refine (HN.out _).mono ?_; rintro e w1 ⟨g, sb, chs, rfl, hb, hl, h1, h2, h3⟩; have H1 := Lib.hid hl; clear hb hl h1 h2 h3)
      | (go_at_call 9; refine (awake_any _).mono ?_; rintro e w4 ⟨rfl, hb⟩; have H4 := Lib.hid (H1.out.trans (hb.mono H1.out.size)); clear hb))
    go_ret
    exact ⟨rfl, H4.out⟩
  have hR1 : (1 : Int) ≤ (R.length : Int) := by omega
  by_cases hR2 : 20 < R.length
  · have hR' : (20 : Int) < (R.length : Int) := by omega
    clear h1 h2 hw1 hw2 hv
    go_enter Try.func3, Try.ntmps3
    go_wp2_with (first
      | (go_at_call 8; refine (HN.out _).mono ?_; rintro e w1 ⟨g, sb, chs, rfl, hb, hl, h1, h2, h3⟩; have H1 := Lib.hid hl; clear hb hl h1 h2 h3)
      | (go_at_call 9; refine (awake_any _).mono ?_; rintro e w4 ⟨rfl, hb⟩; have H4 := Lib.hid (H1.out.trans (hb.mono H1.out.size)); clear hb))
    go_ret
    exact ⟨rfl, H4.out⟩
  have hR' : (R.length : Int) ≤ 20 := by omega
  obtain ⟨m, hm⟩ : ∃ m : Nat, R.length = m + 1 := ⟨R.length - 1, by omega⟩
  have hmi : (R.length : Int) - 1 = (m : Int) := by omega
  obtain ⟨last, hlast⟩ : ∃ x, R[m]? = some x := ⟨_, List.getElem?_eq_getElem (by omega)⟩
  have hRp : R.take m ++ [last] = R := by
    have : R = R.take (m + 1) := by rw [List.take_of_length_le (by omega)]
    conv => rhs; rw [this]
    rw [List.take_add_one, hlast]
    rfl
  have htl : (R.take m).length = m := by rw [List.length_take]; omega
  have hsl := fun W => run_slice_to (P := Try.prog) 22 Try.underlying22 1 Try.sizeOf3 a2 R.length c2 .i64 (m : Int) m rfl (by have := h2.le; omega) W
  have HR := Lib.hid h2
  have HD := Lib.hid h1
  have HW := Lib.hid (And.intro hw1 (And.intro hw2 (show WfI (R.take m) from fun i hi => hw2 i (List.mem_of_mem_take hi))))
  have HL := Lib.hid hlast
  have HP := Lib.hid (And.intro hRp htl)
  have m0 : (0 : Int) ≤ (m : Int) := by omega
  have m1 : (m : Int) < (R.length : Int) := by omega
  have n16 : n ≤ 16 := by omega
  have HM := Lib.hid hm
  clear hm hRp htl hw1 hw2 hv hR0 hR2 hD h1 h2 hlast
  go_enter Try.func3, Try.ntmps3
  go_wp2_with (first
    | (go_at_call 8; refine (HN.out _).mono ?_; rintro e w1 ⟨g, sb, chs, rfl, hb, hl, h1, h2, h3⟩; have hcn : chs.length = n := (by have := hb.len; simpa using this.symm); have H1 := Lib.hid (New.mk hb hl h1 h2 h3); clear hb hl h1 h2 h3))
  go_loopw [9] (fun i wr => ∃ (k : Nat), k ≤ D.length ∧ i = .int .i64 k ∧ Hid (∃ st, New w wr g sb chs st ∧ WfO st)) (fun i _ => D.length - (intOf i).toNat)
  case atStart => exact ⟨0, by omega, rfl, Lib.hid ⟨_, H1.out, fun o ho i hi => by rw [(List.mem_replicate.1 ho).2] at hi; cases hi⟩⟩
  case round =>
    obtain ⟨k, hk, rfl, HS⟩ := hrel
    obtain ⟨wo, rfl⟩ : ∃ wo : World, wo = wr := ⟨_, rfl⟩
    obtain ⟨st, hs1, hs2⟩ := HS.out
    have HB := Lib.hid (And.intro hs1 hs2)
    clear hs1 hs2 HS H1
    by_cases hlt : k < D.length
    · obtain ⟨x, hx⟩ : ∃ x, D[k]? = some x := ⟨_, List.getElem?_eq_getElem hlt⟩
      have hwx := HW.out.1 x (List.mem_of_getElem? hx)
      obtain ⟨b, o, rfl, x0⟩ := ints_at (HD.out.later HB.out.1.low) hx
      have HG := Lib.hid (give_any g sb chs st (k : Int) x hwx HB.out.2 wo HB.out.1.brd)
      have k0 : (0 : Int) ≤ (k : Int) := by omega
      have k1 : (k : Int) < (D.length : Int) := by omega
      clear hx
      go_wp2_with (go_at_call 10; refine HG.out.mono ?_; rintro e w2 ⟨f, st', rfl, hb, hf, hs⟩; have H2 : Hid (∃ st, New w w2 g sb chs st ∧ WfO st) := Lib.hid ⟨st', HB.out.1.turn hb hf, hs⟩; clear hb hf hs)
      go_roundw
      case rel => exact ⟨k + 1, by omega, by go_num, H2⟩
      case measure => simp [intOf]; omega
    · obtain rfl : k = D.length := by omega
      obtain ⟨S, F, hL1, hL2⟩ := acts_more st n (R.take m) last
      rw [HP.out.1] at hL2
      obtain ⟨b, o, rfl, x0⟩ := ints_at (HR.out.later HB.out.1.low) HL.out
      have hlen1 := acts_len st n false (R.take m)
      have hlen2 := acts_len st n false R
      rw [HP.out.2] at hlen1
      obtain ⟨L1, e1⟩ : ∃ L, L = actsL st n false (R.take m) := ⟨_, rfl⟩
      obtain ⟨L2, e2⟩ : ∃ L, L = actsL st n false R := ⟨_, rfl⟩
      have hm := HM.out
      have hm1 := mul_small n16 (show m ≤ 20 by omega)
      have hm2 := mul_small n16 (show R.length ≤ 20 by omega)
      rw [← e1] at hL1 hlen1
      rw [← e2] at hL2 hlen2
      have HC1 := Lib.hid (fun W h hr => acts_k g sb chs st false (some ⟨b, o, none⟩) c2 m n L1.length (R.take m) L1 HP.out.2 hcn e1.symm rfl (by omega) W h hr HB.out.2 HW.out.2.2)
      have HC2 := Lib.hid (fun W h hr => acts_k g sb chs st false (some ⟨b, o, none⟩) c2 R.length n L2.length R L2 rfl hcn e2.symm rfl (by omega) W h hr HB.out.2 HW.out.2.1)
      have HLL := Lib.hid (And.intro hL1 hL2)
      clear hL1 hL2 e1 e2
      have hrm : Rd wo 1 (some ⟨b, o, none⟩) m c2 (intsV (R.take m)) := by
        have := (HR.out.later HB.out.1.low).to m (by omega)
        simpa [intsV, List.map_take] using this
      have HRm := Lib.hid hrm
      have hle1 : L1.length ≤ 340 := by omega
      have hle2 : L2.length ≤ 340 := by omega
      have hil : (idleL st n).length ≤ 16 := by have := idleL_len st n; omega
      clear hrm hm hm1 hm2 hlen1 hlen2
      have tk : True := trivial
      go_wp2_with (first
        | (go_at_call 11; have _t := tk; (with_reducible refine (HC1.out _ HB.out.1.brd HRm.out).mono ?_); rintro e w3 ⟨a3, c3, rfl, hr, hb, hf⟩; have H3 := Lib.hid (And.intro (HB.out.1.turn hb hf) hr); clear hb hf hr tk x0)
        | (go_at_call 11; (with_reducible refine (HC2.out _ H3.out.1.brd (HR.out.later H3.out.1.low)).mono ?_); rintro e w4 ⟨a4, c4, rfl, hr, hb, hf⟩; have H4 := Lib.hid (And.intro (H3.out.1.turn hb hf) (And.intro (H3.out.1.keep H3.out.2 hf) hr)); clear hb hf hr))
      clear HC1 HC2
      go_loopw [14, 15] (fun t i wr => ∃ (j : Nat), j ≤ m ∧ i = .int .i64 j ∧ t = .bool ((R.take j).contains last) ∧ wr = w4) (fun _ i _ => m - (intOf i).toNat)
      case atStart => exact ⟨0, by omega, rfl, by simp, rfl⟩
      case round =>
        obtain ⟨j, hj, rfl, rfl, rfl⟩ := hrel
        by_cases hjm : j < m
        · obtain ⟨x, hx⟩ : ∃ x, R[j]? = some x := ⟨_, List.getElem?_eq_getElem (by have := HM.out; omega)⟩
          obtain ⟨b', o', e', x0⟩ := ints_at (HR.out.later H4.out.1.low) hx
          cases e'
          have HT : Hid ((R.take (j + 1)).contains last = ((R.take j).contains last || (x == last))) := Lib.hid (by
            rw [List.take_add_one, hx, List.contains_eq_any_beq, List.contains_eq_any_beq, List.any_append]
            simp [Bool.beq_comm])
          have k0 : (0 : Int) ≤ (j : Int) := by omega
          have k1 : (j : Int) < (R.length : Int) := by omega
          clear hx
          cases ht : (R.take j).contains last with
          | true =>
            rw [ht] at HT
            go_wp2
            go_roundw
            case rel => exact ⟨j + 1, by omega, by go_num, by rw [HT.out]; rfl, by first | trivial | rfl⟩
            case measure => simp [intOf]; omega
          | false =>
            rw [ht] at HT
            by_cases hxl : x = last
            · subst hxl
              go_wp2
              go_roundw
              case rel => exact ⟨j + 1, by omega, by go_num, by rw [HT.out]; simp, by first | trivial | rfl⟩
              case measure => simp [intOf]; omega
            · go_wp2
              go_roundw
              case rel => exact ⟨j + 1, by omega, by go_num, by rw [HT.out]; simp [hxl], by first | trivial | rfl⟩
              case measure => simp [intOf]; omega
        · obtain rfl : j = m := by omega
          have HI : Hid (∀ W, Brd W g sb chs st → Calls Try.prog 13 #[.pointer (some ⟨g, 0, none⟩)] W fun e w' => ∃ a c, e = .returned (.slice a (idleL st n).length c) ∧ Rd w' 1 a (idleL st n).length c (intsV (idleL st n)) ∧ Fr (bF chs) W w' ∧ Brd w' g sb chs st) := Lib.hid (by
            intro W h
            have h1 := idle_any g sb chs st W h
            rw [hcn] at h1
            exact h1.mono fun e w' ⟨a, c, h1, h2, h3⟩ => ⟨a, c, h1, h2.rd, h2.low, h3⟩)
          generalize (R.take j).contains last = T0 at *
          go_wp2
          go_loopw [14, 16] (fun t i wr => ∃ (k : Nat), k ≤ n ∧ i = .int .i64 k ∧ t = .bool (T0 || (busyL st k).contains last) ∧ Hid (New w wr g sb chs st ∧ Rd wr 3 a3 L1.length c3 (actsV L1) ∧ Rd wr 3 a4 L2.length c4 (actsV L2))) (fun _ i _ => n - (intOf i).toNat)
          case atStart => exact ⟨0, by omega, rfl, by simp [busyL], H4⟩
          case round =>
            clear H4
            obtain ⟨k, hk, rfl, rfl, H5⟩ := hrel
            obtain ⟨wo, rfl⟩ : ∃ wo : World, wo = wr := ⟨_, rfl⟩
            by_cases hkn : k < n
            · cases hlk : look st (k : Int) with
              | none =>
                have HE : Hid ((T0 || (busyL st (k + 1)).contains last) = (T0 || (busyL st k).contains last)) := Lib.hid (by rw [busyL, hlk, List.append_nil])
                have HDm := Lib.hid (does_none g sb chs st (k : Int) hlk wo H5.out.1.brd)
                clear hlk
                generalize (T0 || (busyL st k).contains last) = tt at *
                cases tt
                all_goals
                  go_wp2_with (go_at_call 12; refine HDm.out.mono ?_; rintro e w5 ⟨rfl, rfl⟩)
                  go_roundw
                  case rel => exact ⟨k + 1, by omega, by go_num, by rw [HE.out], H5⟩
                  case measure => simp [intOf]; omega
              | some d =>
                have HE : Hid ((T0 || (busyL st (k + 1)).contains last) = ((T0 || (busyL st k).contains last) || (d == last))) := Lib.hid (by
                  rw [busyL, hlk, List.contains_eq_any_beq, List.contains_eq_any_beq, List.any_append, Bool.or_assoc]
                  simp [Bool.beq_comm])
                have HDm := Lib.hid (does_some g sb chs st (k : Int) d hlk wo H5.out.1.brd)
                clear hlk
                generalize (T0 || (busyL st k).contains last) = tt at *
                by_cases hdl : d = last
                all_goals
                  cases tt
                  all_goals
                    go_wp2_with (go_at_call 12; refine HDm.out.mono ?_; rintro e w5 ⟨rfl, hb, hf⟩; have H6 := Lib.hid (And.intro (H5.out.1.turn hb hf) (And.intro (H5.out.1.keep H5.out.2.1 hf) (H5.out.1.keep H5.out.2.2 hf))); clear hb hf)
                    go_roundw
                    case rel => exact ⟨k + 1, by omega, by go_num, by rw [HE.out]; simp [hdl], H6⟩
                    case measure => simp [intOf]; omega
            · obtain rfl : k = n := by omega
              have hHL := HLL.out
              generalize (T0 || (busyL st k).contains last) = tt at *
              generalize idleL st k = il at *
              clear HLL
              rcases hHL with ⟨hL1, ⟨rfl, hL2⟩ | ⟨rfl, hL2, hS⟩⟩
              · have hLe : L2 = L1 := by rw [hL1, hL2]
                subst hLe
                clear hL1 hL2
                go_wp2_with (go_at_call 13; refine (HI.out _ H5.out.1.brd).mono ?_; rintro e w6 ⟨a6, c6, rfl, hr, hf, hb⟩; have H6 := Lib.hid (And.intro (H5.out.1.turn hb hf) (And.intro (H5.out.1.keep H5.out.2.1 hf) (H5.out.1.keep H5.out.2.2 hf))); clear hb hf hr)
                go_loopw [20, 21, 22] (fun x y z wr => ∃ (q : Nat), q ≤ L2.length ∧ x = .int .i64 q ∧ y = .int .i64 0 ∧ z = .int .i64 q ∧ Hid (Below w6.heap.size w6 wr)) (fun _ _ z _ => L2.length - (intOf z).toNat)
                case atStart => exact ⟨0, by omega, rfl, rfl, rfl, Lib.hid (Below.refl _ _)⟩
                case round =>
                  clear H5
                  obtain ⟨q, hq, rfl, rfl, rfl, HB6⟩ := hrel
                  obtain ⟨wp, rfl⟩ : ∃ wp : World, wp = wr := ⟨_, rfl⟩
                  by_cases hql : q < L2.length
                  · obtain ⟨⟨xk, xv, xi⟩, hx⟩ : ∃ x, L2[q]? = some x := ⟨_, List.getElem?_eq_getElem hql⟩
                    obtain ⟨b3, o3, rfl, x0, x1, x2⟩ := act_at (H6.out.2.1.later HB6.out) hx
                    obtain ⟨b4, o4, rfl, y0, y1, y2⟩ := act_at (H6.out.2.2.later HB6.out) hx
                    have heq := neqAct xk xv xi xk xv xi true (by simp)
                    have k0 : (0 : Int) ≤ (q : Int) := by omega
                    have k1 : (q : Int) < (L2.length : Int) := by omega
                    have d2 : decide ((L2.length : Int) ≤ (q : Int)) = false := by simp; omega
                    clear hx
                    go_wp2
                    go_quiet (fail)
                    go_wp2
                    go_quiet (fail)
                    go_wp2
                    go_roundw
                    case rel => exact ⟨q + 1, by omega, by go_num, rfl, by go_num, Lib.hid (HB6.out.trans ⟨rfl, rfl, rfl, Nat.le_refl _, fun _ _ => rfl⟩)⟩
                    case measure => simp [intOf]; omega
                  · obtain rfl : q = L2.length := by omega
                    go_wp2_with (go_at_call 9; refine (awake_any _).mono ?_; rintro e w8 ⟨rfl, hb⟩; have H8 := Lib.hid (HB6.out.trans (hb.mono HB6.out.size)); clear hb)
                    go_ret
                    exact ⟨rfl, H6.out.1.low.trans (H8.out.mono H6.out.1.low.size)⟩
              · have hlen : L1.length = S.length + F.length ∧ L2.length = S.length + il.length + F.length := by
                  rw [hL1, hL2]; simp [startsOf]; omega
                have HLL := Lib.hid (And.intro hL1 (And.intro hL2 (And.intro hS hlen)))
                have hn2 : (L2.length : Int) = (L1.length : Int) + (il.length : Int) := by omega
                clear hL1 hL2 hS hlen
                go_wp2_with (go_at_call 13; refine (HI.out _ H5.out.1.brd).mono ?_; rintro e w6 ⟨a6, c6, rfl, hr, hf, hb⟩; have H6 := Lib.hid (And.intro (H5.out.1.turn hb hf) (And.intro (H5.out.1.keep H5.out.2.1 hf) (And.intro (H5.out.1.keep H5.out.2.2 hf) hr))); clear hb hf hr)
                have HN2 := Lib.hid hn2
                clear hn2
                go_loopw [20, 21, 22] (fun x y z wr => ∃ (i q m : Nat), i = m + q ∧ i ≤ L2.length ∧ x = .int .i64 q ∧ y = .int .i64 m ∧ z = .int .i64 i ∧ Hid (Below w6.heap.size w6 wr ∧ At S.length il.length m q)) (fun _ _ z _ => L2.length - (intOf z).toNat)
                case atStart => exact ⟨0, 0, 0, rfl, by omega, rfl, rfl, rfl, Lib.hid ⟨Below.refl _ _, by omega, .inl ⟨rfl, by omega⟩⟩⟩
                case round =>
                  clear H5
                  obtain ⟨i, q, m', hi, hi2, rfl, rfl, rfl, HB6⟩ := hrel
                  obtain ⟨wp, rfl⟩ : ∃ wp : World, wp = wr := ⟨_, rfl⟩
                  by_cases hql : i < L2.length
                  · have hst := at_step HLL.out.2.2.1 HB6.out.2 (F := F) (by rw [← HLL.out.2.1, ← hi]; exact hql)
                    rw [← HLL.out.2.1, ← HLL.out.1, ← hi] at hst
                    have k0 : (0 : Int) ≤ (i : Int) := by omega
                    have k1 : (i : Int) < (L2.length : Int) := by omega
                    have HQ := Lib.hid hi
                    clear hi
                    have q0 : (0 : Int) ≤ (q : Int) := by omega
                    have m0' : (0 : Int) ≤ (m' : Int) := by omega
                    rcases hst with ⟨hm, ⟨xk, xv, xi⟩, hx2, hne, hx1, hAt', vv, hv⟩ | ⟨hm, vv, hv, hx2, hAt'⟩ | ⟨hm, ⟨xk, xv, xi⟩, hx2, hx1, hAt'⟩
                    · have HA := Lib.hid hAt'
                      have hq1 := (List.getElem?_eq_some_iff.1 hx1).1
                      have q1 : (q : Int) < (L1.length : Int) := by omega
                      have d2 : decide ((L1.length : Int) ≤ (q : Int)) = false := by simp; omega
                      have d1 : decide ((m' : Int) < (il.length : Int)) = true := by simp; omega
                      have m1' : (m' : Int) < (il.length : Int) := by omega
                      obtain ⟨b3, o3, rfl, x0, x1, x2⟩ := act_at (H6.out.2.1.later HB6.out.1) hx1
                      obtain ⟨b4, o4, rfl, y0, y1, y2⟩ := act_at (H6.out.2.2.1.later HB6.out.1) hx2
                      obtain ⟨b6, o6, rfl, z0⟩ := ints_at (H6.out.2.2.2.later HB6.out.1) hv
                      have heq := neqAct xk xv xi xk xv xi true (by simp)
                      have heq2 := eqlAct xk xv xi 2 vv last false (by simp at hne; simp [hne])
                      clear hx1 hx2 hv hAt' hne
                      go_wp2
                      go_quiet (fail)
                      go_wp2
                      go_quiet (fail)
                      go_wp2
                      go_roundw
                      case rel => exact ⟨i + 1, q + 1, m', by have := HQ.out; omega, by omega, by go_num, rfl, by go_num, Lib.hid ⟨HB6.out.1.trans ⟨rfl, rfl, rfl, Nat.le_refl _, fun _ _ => rfl⟩, HA.out⟩⟩
                      case measure => simp [intOf]; omega
                    · have HA := Lib.hid hAt'
                      have d1 : decide ((m' : Int) < (il.length : Int)) = true := by simp; omega
                      have m1' : (m' : Int) < (il.length : Int) := by omega
                      obtain ⟨b4, o4, rfl, y0, y1, y2⟩ := act_at (H6.out.2.2.1.later HB6.out.1) hx2
                      obtain ⟨b6, o6, rfl, z0⟩ := ints_at (H6.out.2.2.2.later HB6.out.1) hv
                      have heq2 := eqlAct 2 vv last 2 vv last true (by simp)
                      clear hx2 hv hAt'
                      go_wp2
                      go_quiet (fail)
                      go_wp2
                      go_roundw
                      case rel => exact ⟨i + 1, q, m' + 1, by have := HQ.out; omega, by omega, rfl, by go_num, by go_num, Lib.hid ⟨HB6.out.1.trans ⟨rfl, rfl, rfl, Nat.le_refl _, fun _ _ => rfl⟩, HA.out⟩⟩
                      case measure => simp [intOf]; omega
                    · have HA := Lib.hid hAt'
                      have hq1 := (List.getElem?_eq_some_iff.1 hx1).1
                      have q1 : (q : Int) < (L1.length : Int) := by omega
                      have d2 : decide ((L1.length : Int) ≤ (q : Int)) = false := by simp; omega
                      have d1 : decide ((m' : Int) < (il.length : Int)) = false := by simp; omega
                      have m1' : ¬ (m' : Int) < (il.length : Int) := by omega
                      obtain ⟨b3, o3, rfl, x0, x1, x2⟩ := act_at (H6.out.2.1.later HB6.out.1) hx1
                      obtain ⟨b4, o4, rfl, y0, y1, y2⟩ := act_at (H6.out.2.2.1.later HB6.out.1) hx2
                      have heq := neqAct xk xv xi xk xv xi true (by simp)
                      have hmn : ¬ m' < il.length := by omega
                      clear hx1 hx2 hAt' hm
                      go_wp2
                      go_quiet (fail)
                      go_wp2
                      go_quiet (fail)
                      go_wp2
                      go_roundw
                      case rel => exact ⟨i + 1, q + 1, m', by have := HQ.out; omega, by omega, by go_num, rfl, by go_num, Lib.hid ⟨HB6.out.1.trans ⟨rfl, rfl, rfl, Nat.le_refl _, fun _ _ => rfl⟩, HA.out⟩⟩
                      case measure => simp [intOf]; omega
                  · have hend := at_end HB6.out.2 (f := F.length) (by have := HLL.out.2.2.2; omega)
                    obtain ⟨rfl, hq2⟩ := hend
                    have hq3 : q = L1.length := by have := HLL.out.2.2.2; omega
                    subst hq3
                    have hi3 : i = L2.length := by omega
                    subst hi3
                    clear hq2 hi
                    go_wp2_with (go_at_call 9; refine (awake_any _).mono ?_; rintro e w8 ⟨rfl, hb⟩; have H8 := Lib.hid (HB6.out.1.trans (hb.mono HB6.out.1.size)); clear hb)
                    go_ret
                    exact ⟨rfl, H6.out.1.low.trans (H8.out.mono H6.out.1.low.size)⟩
end Go.Proofs.Ytpfcghigfkhimaa
