/- Joined: Tblaw12. -/
import Derived.Test.YtecnijnmgdfdhaaYTblaw8
/- The laws of package table: TableWhole. -/
namespace Go.Proofs.Ytecnijnmgdfdhaa
namespace Tb
open Go.RowKit Tr
open Ky (less)
section
variable {most : Nat} {L : List Pr}
theorem putE_ok {k : Str} (h : putE k most L = 0) : Ks.okKey k = true := by
  unfold putE at h
  cases hk : Ks.okKey k with
  | true => rfl
  | false => rw [hk] at h; cases h
theorem step_ok (hm : 1 ≤ most ∧ most ≤ 1024) (x : OpT) (hx : OkOp x) (h : TOk most L) (hs : Sorted L) : TOk most (stepT most x L) ∧ Sorted (stepT most x L) := by
  unfold stepT
  split
  · unfold putT
    split
    next hp =>
      have hk := putE_ok hp
      refine ⟨⟨h.ok.ins hk hx.2, ?_, h.lo, h.hi⟩, hs.ins _⟩
      rw [ins_len]
      unfold putE at hp
      rw [hk, if_pos rfl] at hp
      show L.length + (if get x.2.1 L = none then 1 else 0) ≤ most
      have := h.len
      cases hg : get x.2.1 L with
      | none =>
        rw [hg] at hp
        by_cases hfull : most ≤ L.length
        · rw [decide_eq_true hfull] at hp; cases hp
        · simp; omega
      | some s => simp; omega
    next => exact ⟨h, hs⟩
  · split
    · unfold delT
      split
      · refine ⟨⟨h.ok.del _, ?_, h.lo, h.hi⟩, hs.del _⟩
        have := del_len x.2.1 L
        have := h.len
        omega
      · exact ⟨h, hs⟩
    · exact ⟨h, hs⟩
theorem run_ok (hm : 1 ≤ most ∧ most ≤ 1024) : ∀ (l : List OpT), (∀ x ∈ l, OkOp x) → TOk most (runT most l) ∧ Sorted (runT most l) := by
  intro l hl
  have key : ∀ (l : List OpT) (L : List Pr), (∀ x ∈ l, OkOp x) → TOk most L → Sorted L → TOk most (l.foldl (fun L x => stepT most x L) L) ∧ Sorted (l.foldl (fun L x => stepT most x L) L) := by
    intro l
    induction l with
    | nil => intro L _ h1 h2; exact ⟨h1, h2⟩
    | cons x l ih =>
      intro L hl h1 h2
      have h3 := step_ok hm x (hl x (List.mem_cons_self ..)) h1 h2
      exact ih _ (fun y hy => hl y (List.mem_cons_of_mem _ hy)) h3.1 h3.2
  exact key l [] hl ⟨OkT.nil, Nat.zero_le _, hm.1, hm.2⟩ List.Pairwise.nil
theorem row_at (h : TOk most L) (hs : Sorted L) {c j : Nat} {q : Pr} (hq : (idx c L)[j]? = some q) : getE (kOf q.1) L = 0 ∧ col (getR (kOf q.1) L) c = vOf q.1 := by
  obtain ⟨p, hp, e1, e2, e3⟩ := idx_row h.ok hs (List.mem_of_getElem? hq)
  have hk := (h.ok p hp).1
  rw [e1]
  exact ⟨by unfold getE; rw [hk, e3]; rfl, by rw [show getR p.1 L = decT p.2 by unfold getR; rw [hk, e3]; rfl, e2]⟩
/-- What Find of all values tells: each key, its row's value; of two, one behind the other, which is ahead. -/
theorem whole_at (h : TOk most L) (hs : Sorted L) {c j : Nat} {k : Str} (hj : (keysOf (idx c L))[j]? = some k) : getE k L = 0 := by
  unfold keysOf at hj
  rw [List.getElem?_map] at hj
  obtain ⟨q, hq, rfl⟩ := Option.map_eq_some_iff.1 hj
  exact (row_at h hs hq).1
theorem whole_two (h : TOk most L) (hs : Sorted L) {c j : Nat} {k k' : Str} (hj : (keysOf (idx c L))[j]? = some k) (hj' : (keysOf (idx c L))[j + 1]? = some k') :
    col (getR k L) c < col (getR k' L) c ∨ (col (getR k L) c = col (getR k' L) c ∧ less k k' = true) := by
  unfold keysOf at hj hj'
  rw [List.getElem?_map] at hj hj'
  obtain ⟨q, hq, rfl⟩ := Option.map_eq_some_iff.1 hj
  obtain ⟨q', hq', rfl⟩ := Option.map_eq_some_iff.1 hj'
  rw [(row_at h hs hq).2, (row_at h hs hq').2]
  obtain ⟨h1, rfl⟩ := List.getElem?_eq_some_iff.1 hq
  obtain ⟨h2, rfl⟩ := List.getElem?_eq_some_iff.1 hq'
  exact idx_order h.ok (List.mem_of_getElem? hq) (List.mem_of_getElem? hq') ((List.pairwise_iff_getElem.1 (idx_sorted c L)) j (j + 1) h1 h2 (by omega))
theorem keysOf_append (A M : List Pr) : keysOf (A ++ M) = keysOf A ++ keysOf M := by unfold keysOf; rw [List.map_append]
theorem keysOf_length (A : List Pr) : (keysOf A).length = A.length := by unfold keysOf; rw [List.length_map]
theorem whole_parts (h : OkT L) (c : Nat) {v : Int} (hv : Ky.In v) : (∃ Z, keysOf (idx c L) = keysOf (hits c (-9223372036854775808) v L) ++ Z ∧ (v < 9223372036854775807 → Z = keysOf (hits c (v + 1) 9223372036854775807 L)) ∧ (v = 9223372036854775807 → Z = [])) ∧ ∃ A, keysOf (hits c (-9223372036854775808) v L) = A ++ keysOf (hits c v v L) := by
  constructor
  · by_cases hn : v < 9223372036854775807
    · refine ⟨_, ?_, fun _ => rfl, fun e => by omega⟩
      rw [← keysOf_append, ← hits_part h c hv hn]
    · have e : v = 9223372036854775807 := by unfold Ky.In at hv; omega
      subst e
      exact ⟨[], by rw [hits_all h c, List.append_nil], fun h => by omega, fun _ => rfl⟩
  · obtain ⟨A, hA⟩ := hits_own h c hv
    exact ⟨keysOf A, by rw [hA, keysOf_append]⟩
end
theorem textsV_length (l : List Str) : (textsV l).length = l.length := by unfold textsV; rw [List.length_map]
theorem textsV_append (a b : List Str) : textsV (a ++ b) = textsV a ++ textsV b := by unfold textsV; rw [List.map_append]
theorem sizeText (w : World) : (sizeOf (Try.prog.elem 31)).run Try.prog w = .ok 1 w := by kernel_rfl
set_option maxRecDepth 100000 in
theorem slice_tail (a : Option Addr) (n k m o : Nat) (h : n = m + o) (hk : n ≤ k) : ∃ sa, (∀ W : World, (Instr.slice 31 (.slice a n k) (some (.int .i64 (m : Int))) none none).run Try.prog W = .ok (.slice sa o (k - m)) W) ∧ ∀ (W : World) (vs : List Value), Rd W 1 a n k vs → Rd W 1 sa o (k - m) (vs.drop m) := by
  have e : n - m = o := by omega
  refine ⟨if k = m then a else a.map (fun x => x.add m), fun W => ?_, fun W vs h => ?_⟩
  · have := run_slice_from (P := Try.prog) 31 Try.underlying31 1 sizeText a n k .i64 (m : Int) m rfl (by omega) W
    rwa [e, Nat.mul_one] at this
  · have := h.from m (by omega)
    rwa [e, Nat.mul_one] at this
section
variable {B : Nat} {w0 w V : World} {X Y : List Rs} {tb r most o : Nat} {L : List Pr}
theorem own_rdM {size n k : Nat} {a : Option Addr} {xs : List Value} (h : Own B w0 Y w) (hm : SlR size a n k xs ∈ Y) : Rd w size a n k xs := by
  obtain ⟨_, _, F, h1, _⟩ := h
  obtain ⟨F1, h2, _⟩ := sepF_mem h1 hm
  exact h2.rd
theorem own_findA (c : Nat) (hc : c < 4) (lo hi : Int) (h1 : Ky.In lo) (h2 : Ky.In hi) (hl : ¬ hi < lo) (ok : TOk most L) (hs : Sorted L) (h : Own B w0 (TabR tb most o L :: X) w) :
    Calls Try.prog 14 #[ptrV tb, .int .i64 c, .int .i64 lo, .int .i64 hi, .int .i64 2000] w fun e V => ∃ (a : Option Addr) (k : Nat), e = .returned (.tuple #[.slice a (keysOf (hits c lo hi L)).length k, .int .i64 0]) ∧ Own B w0 (SlR 1 a (keysOf (hits c lo hi L)).length k (textsV (keysOf (hits c lo hi L))) :: TabR tb most o L :: X) V := by
  have hk := keys_len ok hs c lo hi
  have h3 := own_findR c hc lo hi h1 h2 hl 2000 h
  rwa [List.take_of_length_le (by omega)] at h3
end
set_option maxHeartbeats 16000000 in
set_option maxRecDepth 100000 in
theorem tableWhole_walk (m0 : Int) (a : Option Addr) (c : Nat) (l : List OpT) (t0 t1 : Int) (w : World) (hr : Rd w 6 a l.length c (opsV l)) (hok : ∀ x ∈ l, OkOp x) (hv : Ky.In t1) :
    Calls Try.prog 3 #[.int .i64 m0, .slice a l.length c, .agg #[.int .i64 t0, .int .i64 t1]] w (Yes w) := by
  have hcap := hr.cap
  have hle := hr.le
  unfold maxLen at hcap
  have HA := Lib.hid (fun W => awakeT_any W)
  have hb0 := al1 w (.cells #[.int .i64 t0, .int .i64 t1] 23)
  obtain ⟨W, hW⟩ : ∃ W, w.alloc (.cells #[.int .i64 t0, .int .i64 t1] 23) = W := ⟨_, rfl⟩
  have x0 : W.cell? ⟨w.heap.size, 0, none⟩ = some (.int .i64 t0) := by rw [← hW]; simp
  have x1 : W.cell? ⟨w.heap.size, 1, none⟩ = some (.int .i64 t1) := by rw [← hW]; simp
  rw [hW] at hb0
  have HX : Hid (∀ V, Below W.heap.size W V → V.cell? ⟨w.heap.size, 0, none⟩ = some (.int .i64 t0) ∧ V.cell? ⟨w.heap.size, 1, none⟩ = some (.int .i64 t1)) := Lib.hid (fun V hb => ⟨old_cell x0 hb, old_cell x1 hb⟩)
  have HEnd : Hid (∀ V, Below W.heap.size W V → Below w.heap.size w V) := Lib.hid (fun V hb => hb0.trans (hb.mono hb0.size))
  have HRt := Lib.hid (fun W => right_any m0 W)
  have HF := Lib.hid (fun V (hb : Below W.heap.size W V) => few_any a c l (by omega) hok V ((hr.later hb0).later hb))
  have HR := Lib.hid (And.intro (hr.later hb0) hok)
  have HIn := Lib.hid hv
  clear hb0 hr hok hv
  by_cases hm : okMost m0 = true
  case neg =>
    have hm2 : okMost m0 = false := by simpa using hm
    rw [hm2] at HRt
    clear hm hm2
    go_enter Try.func3, Try.ntmps3
    go_wp2_with (first | (go_at_call 10; refine (HRt.out _).mono ?_; rintro e V1 ⟨rfl, rfl⟩) | (go_at_call 12; refine (HA.out _).mono ?_; rintro e V9 ⟨rfl, hb⟩; have H9 := Lib.hid ((Below.refl W.heap.size W).trans (hb.mono (Below.refl W.heap.size W).size)); clear hb))
    go_ret
    exact ⟨rfl, HEnd.out _ H9.out⟩
  rw [hm] at HRt
  have hm3 : 1 ≤ m0 ∧ m0 ≤ 1024 := by unfold okMost at hm; simpa using hm
  obtain ⟨most, rfl⟩ : ∃ n : Nat, m0 = n := ⟨m0.toNat, by omega⟩
  have hmm : 1 ≤ most ∧ most ≤ 1024 := by omega
  clear hm hm3
  by_cases hf : fewT l
  case neg =>
    have hff : decide (fewT l) = false := by simpa using hf
    rw [hff] at HF
    clear hf hff hmm
    go_enter Try.func3, Try.ntmps3
    go_wp2_with (first | (go_at_call 10; refine (HRt.out _).mono ?_; rintro e V1 ⟨rfl, rfl⟩) | (go_at_call 11; refine (HF.out _ (Below.refl _ _)).mono ?_; rintro e V2 ⟨rfl, rfl⟩) | (go_at_call 12; refine (HA.out _).mono ?_; rintro e V9 ⟨rfl, hb⟩; have H9 := Lib.hid ((Below.refl W.heap.size W).trans (hb.mono (Below.refl W.heap.size W).size)); clear hb))
    go_ret
    exact ⟨rfl, HEnd.out _ H9.out⟩
  have hff : decide (fewT l) = true := by simpa using hf
  rw [hff] at HF
  clear hf hff
  by_cases hlow : t0 < 0
  · clear hmm
    go_enter Try.func3, Try.ntmps3
    go_wp2_with (first | (go_at_call 10; refine (HRt.out _).mono ?_; rintro e V1 ⟨rfl, rfl⟩) | (go_at_call 11; refine (HF.out _ (Below.refl _ _)).mono ?_; rintro e V2 ⟨rfl, rfl⟩) | (go_at_call 12; refine (HA.out _).mono ?_; rintro e V9 ⟨rfl, hb⟩; have H9 := Lib.hid ((Below.refl W.heap.size W).trans (hb.mono (Below.refl W.heap.size W).size)); clear hb))
    go_ret
    exact ⟨rfl, HEnd.out _ H9.out⟩
  obtain ⟨cc, rfl⟩ : ∃ n : Nat, t0 = n := ⟨t0.toNat, by omega⟩
  by_cases hcc : cc < 4
  case neg =>
    have hc3 : (3 : Int) < (cc : Int) := by omega
    clear hmm hcc
    go_enter Try.func3, Try.ntmps3
    go_wp2_with (first | (go_at_call 10; refine (HRt.out _).mono ?_; rintro e V1 ⟨rfl, rfl⟩) | (go_at_call 11; refine (HF.out _ (Below.refl _ _)).mono ?_; rintro e V2 ⟨rfl, rfl⟩) | (go_at_call 12; refine (HA.out _).mono ?_; rintro e V9 ⟨rfl, hb⟩; have H9 := Lib.hid ((Below.refl W.heap.size W).trans (hb.mono (Below.refl W.heap.size W).size)); clear hb))
    go_ret
    exact ⟨rfl, HEnd.out _ H9.out⟩
  have hc3 : ¬ (3 : Int) < (cc : Int) := by omega
  have hc0 : (0 : Int) ≤ (cc : Int) := by omega
  have hc4 : (cc : Int) < 4 := by omega
  have HM := Lib.hid (own_made most hmm a c l HR.out.1 HR.out.2 (Own.nil W))
  obtain ⟨hok, hsr⟩ := run_ok hmm l HR.out.2
  obtain ⟨L, hL⟩ : ∃ L, runT most l = L := ⟨_, rfl⟩
  rw [hL] at HM hok hsr
  obtain ⟨K, hK⟩ : ∃ K, keysOf (idx cc L) = K := ⟨_, rfl⟩
  have HOk := Lib.hid (And.intro hok (And.intro hsr hK))
  have hNl : K.length = L.length := by rw [← hK, keysOf_length, idx_len hok.ok hsr]
  have hfind := fun tb X V (h : Own W.heap.size W (TabR tb most 2 L :: X) V) => own_findA cc hcc (-9223372036854775808) 9223372036854775807 (by unfold Ky.In; omega) (by unfold Ky.In; omega) (by omega) hok hsr h
  rw [hits_all hok.ok cc, hK] at hfind
  obtain ⟨⟨Z, hZ1, hZ2, hZ3⟩, A, hA⟩ := whole_parts hok.ok cc HIn.out
  rw [hK] at hZ1
  obtain ⟨KA, hKA⟩ : ∃ K, keysOf (hits cc (-9223372036854775808) t1 L) = K := ⟨_, rfl⟩
  obtain ⟨KO, hKO⟩ : ∃ K, keysOf (hits cc t1 t1 L) = K := ⟨_, rfl⟩
  have hfA := fun tb X V (h : Own W.heap.size W (TabR tb most 2 L :: X) V) => own_findA cc hcc (-9223372036854775808) t1 (by unfold Ky.In; omega) HIn.out (by have := HIn.out; unfold Ky.In at this; omega) hok hsr h
  have hfO := fun tb X V (h : Own W.heap.size W (TabR tb most 2 L :: X) V) => own_findA cc hcc t1 t1 HIn.out HIn.out (by omega) hok hsr h
  rw [hKA] at hZ1 hA hfA
  rw [hKO] at hA hfO
  obtain ⟨N, hN⟩ : ∃ N, K.length = N := ⟨_, rfl⟩
  obtain ⟨NA, hNA⟩ : ∃ N, KA.length = N := ⟨_, rfl⟩
  obtain ⟨NO, hNO⟩ : ∃ N, KO.length = N := ⟨_, rfl⟩
  obtain ⟨NB, hNB0⟩ : ∃ N, Z.length = N := ⟨_, rfl⟩
  obtain ⟨MA, hMA0⟩ : ∃ N, A.length = N := ⟨_, rfl⟩
  have hNB : N = NA + NB := by rw [← hN, ← hNA, ← hNB0, hZ1, List.length_append]
  have hMA : NA = MA + NO := by rw [← hNA, ← hNO, ← hMA0, hA, List.length_append]
  have hN1 : N ≤ 1024 := by rw [← hN, hNl]; have := hok.len; have := hok.hi; omega
  have HF1 : Hid (∀ tb (X : List Rs) V, Own W.heap.size W (TabR tb most 2 L :: X) V → Calls Try.prog 14 #[ptrV tb, .int .i64 cc, .int .i64 (-9223372036854775808), .int .i64 9223372036854775807, .int .i64 2000] V fun e V2 => ∃ (a : Option Addr) (k : Nat), e = .returned (.tuple #[.slice a N k, .int .i64 0]) ∧ Own W.heap.size W (SlR 1 a N k (textsV K) :: TabR tb most 2 L :: X) V2) := Lib.hid (by rw [hN] at hfind; exact hfind)
  have HF2 : Hid (∀ tb (X : List Rs) V, Own W.heap.size W (TabR tb most 2 L :: X) V → Calls Try.prog 14 #[ptrV tb, .int .i64 cc, .int .i64 (-9223372036854775808), .int .i64 t1, .int .i64 2000] V fun e V2 => ∃ (a : Option Addr) (k : Nat), e = .returned (.tuple #[.slice a NA k, .int .i64 0]) ∧ Own W.heap.size W (SlR 1 a NA k (textsV KA) :: TabR tb most 2 L :: X) V2) := Lib.hid (by rw [hNA] at hfA; exact hfA)
  have HF3 : Hid (∀ tb (X : List Rs) V, Own W.heap.size W (TabR tb most 2 L :: X) V → Calls Try.prog 14 #[ptrV tb, .int .i64 cc, .int .i64 t1, .int .i64 t1, .int .i64 2000] V fun e V2 => ∃ (a : Option Addr) (k : Nat), e = .returned (.tuple #[.slice a NO k, .int .i64 0]) ∧ Own W.heap.size W (SlR 1 a NO k (textsV KO) :: TabR tb most 2 L :: X) V2) := Lib.hid (by rw [hNO] at hfO; exact hfO)
  have HLen : Hid (∀ tb (X : List Rs) V, Own W.heap.size W (TabR tb most 2 L :: X) V → Calls Try.prog 15 #[ptrV tb] V fun e V2 => e = .returned (.int .i64 N) ∧ V = V2) := Lib.hid (fun tb X V h => by have := own_tabLen h; rwa [← hNl, hN] at this)
  have HTx : Hid (∀ V (S : List Str) n, S.length = n → n ≤ 1024 → ∀ a k b d, Rd V 1 a n k (textsV S) → Rd V 1 b n d (textsV S) → Calls Try.prog 17 #[.slice a n k, .slice b n d] V fun e V2 => e = .returned (.bool true) ∧ Below V.heap.size V V2) := Lib.hid (fun V S n hn hn1 a k b d h1 h2 => by
    subst hn
    have := texts_any a k S b d S V (by omega) h1 h2
    simpa using this)
  have HTo : Hid (∀ V a k, Rd V 1 a N k (textsV K) → Rd V 1 a NA k (textsV KA)) := Lib.hid (fun V a k h => by
    have := h.to NA (by omega)
    rwa [Nat.mul_one, hZ1, textsV_append, List.take_left' (by rw [textsV_length, hNA])] at this)
  have HSl : Hid (∀ V a k, Rd V 1 a NO k ((textsV KA).drop MA) → Rd V 1 a NO k (textsV KO)) := Lib.hid (fun V a k h => by
    rwa [hA, textsV_append, List.drop_left' (by rw [textsV_length, hMA0])] at h)
  have HSm : Hid (∀ V a k, Rd V 1 a NB k ((textsV K).drop NA) → Rd V 1 a NB k (textsV Z)) := Lib.hid (fun V a k h => by
    rwa [hZ1, textsV_append, List.drop_left' (by rw [textsV_length, hNA])] at h)
  have HG : Hid (∀ tb (X : List Rs) V, Own W.heap.size W (TabR tb most 2 L :: X) V → ∀ j k, K[j]? = some k → Calls Try.prog 16 #[ptrV tb, .string ⟨k.toArray⟩] V fun e V2 => e = .returned (.tuple #[rowW (getR k L), .int .i64 0]) ∧ Below V.heap.size V V2) := Lib.hid (fun tb X V h j k hk => by
    have h1 := own_tabGet k h
    rwa [whole_at hok hsr (by rw [hK]; exact hk)] at h1)
  have HTwo : Hid (∀ j k k', K[j]? = some k → K[j + 1]? = some k' → col (getR k L) cc < col (getR k' L) cc ∨ (col (getR k L) cc = col (getR k' L) cc ∧ less k k' = true)) := Lib.hid (fun j k k' h1 h2 => whole_two hok hsr (by rw [hK]; exact h1) (by rw [hK]; exact h2))
  have HLn : Hid (KA.length = NA ∧ NA ≤ 1024 ∧ KO.length = NO ∧ NO ≤ 1024 ∧ Z.length = NB ∧ NB ≤ 1024) := Lib.hid ⟨hNA, by omega, hNO, by omega, hNB0, by omega⟩
  have HKl := Lib.hid hN
  have HF4 : Hid (t1 < 9223372036854775807 → ∀ tb (X : List Rs) V, Own W.heap.size W (TabR tb most 2 L :: X) V → Calls Try.prog 14 #[ptrV tb, .int .i64 cc, .int .i64 (t1 + 1), .int .i64 9223372036854775807, .int .i64 2000] V fun e V2 => ∃ (a : Option Addr) (k : Nat), e = .returned (.tuple #[.slice a NB k, .int .i64 0]) ∧ Own W.heap.size W (SlR 1 a NB k (textsV Z) :: TabR tb most 2 L :: X) V2) := Lib.hid (fun hlt tb X V h => by
    have h1 := own_findA cc hcc (t1 + 1) 9223372036854775807 (by have := HIn.out; unfold Ky.In at *; omega) (by unfold Ky.In; omega) (by omega) hok hsr h
    rwa [← hZ2 hlt, hNB0] at h1)
  have HEq : Hid (t1 = 9223372036854775807 → NB = 0) := Lib.hid (fun e => by rw [← hNB0, hZ3 e]; rfl)
  have hIn2 : -9223372036854775808 ≤ t1 ∧ t1 ≤ 9223372036854775807 := by have := HIn.out; unfold Ky.In at this; omega
  have hN2 : (N : Int) ≤ 1024 := by omega
  have hN0 : (0 : Int) ≤ (N : Int) := by omega
  have hA2 : (NA : Int) ≤ (N : Int) := by omega
  have hA0 : (0 : Int) ≤ (NA : Int) := by omega
  have hM0 : (0 : Int) ≤ (MA : Int) := by omega
  have hM2 : (MA : Int) ≤ 1024 := by omega
  have hO2 : (NO : Int) ≤ (NA : Int) := by omega
  have hsub : (NA : Int) - (NO : Int) = (MA : Int) := by omega
  have hadd : (NA : Int) + (NB : Int) = (N : Int) := by omega
  have hneN : decide ((N : Int) = (N : Int)) = true := by simp
  have tok1 : True := trivial
  have tok2 : True := trivial
  have tok3 : True := trivial
  have tok4 : True := trivial
  have tok5 : True := trivial
  clear hL hK hNl hfind hZ1 hZ2 hZ3 hA hKA hKO hfA hfO hN hNA hNO hNB0 hMA0 hok hsr hmm hlow
  have HNBA := Lib.hid (And.intro hNB hMA)
  clear hNB hMA
  go_enter Try.func3, Try.ntmps3
  go_wp2_with (first
    | (go_at_call 10; refine (HRt.out _).mono ?_; rintro e V1 ⟨rfl, rfl⟩)
    | (go_at_call 11; refine (HF.out _ (Below.refl _ _)).mono ?_; rintro e V2 ⟨rfl, rfl⟩)
    | (go_at_call 13; refine HM.out.mono ?_; rintro e V3 ⟨tb, r, rfl, hb3, h3⟩; have H3 := Lib.hid h3; obtain ⟨y0, y1⟩ := HX.out _ h3.low; clear h3 hb3)
    | (go_at_call 14; have _t := tok1; refine (HF1.out _ _ _ H3.out).mono ?_; rintro e V4 ⟨ga, gk, rfl, hq⟩; have H4 := Lib.hid hq; obtain ⟨z0, z1⟩ := HX.out _ hq.low; have hrd := own_rd hq; have hgk := hrd.le; have hgc := hrd.cap; clear hq tok1 _t)
    | (go_at_call 15; refine (HLen.out _ _ _ H4.out.swap).mono ?_; rintro e V5 ⟨rfl, rfl⟩))
  go_loopw [13] (fun i wr => ∃ (j : Nat), j ≤ N ∧ i = .int .i64 j ∧ Hid (Own W.heap.size W [SlR 1 ga N gk (textsV K), TabR tb most 2 L, DocR r most L] wr)) (fun i _ => N - (intOf i).toNat)
  case atStart => exact ⟨0, by omega, rfl, H4⟩
  case round =>
    obtain ⟨j, hj, rfl, HJ⟩ := hrel
    have k2 : (0 : Int) ≤ (j : Int) := by omega
    by_cases hlt : j < N
    · have k3 : (j : Int) < (N : Int) := by omega
      obtain ⟨k, hx⟩ : ∃ k, K[j]? = some k := ⟨_, List.getElem?_eq_getElem (by rw [HKl.out]; exact hlt)⟩
      obtain ⟨⟨g0, g1, g2, g3⟩, hgr⟩ : ∃ g, getR k L = g := ⟨_, rfl⟩
      have hG := HG.out _ _ _ HJ.out.swap j k hx
      rw [hgr] at hG
      have HG1 : Hid (Calls Try.prog 16 #[ptrV tb, .string ⟨k.toArray⟩] wr fun e V => e = .returned (.tuple #[.agg #[.int .i64 g0, .int .i64 g1, .int .i64 g2, .int .i64 g3], .int .i64 0]) ∧ Below wr.heap.size wr V) := Lib.hid hG
      clear hG
      cases j with
      | zero =>
        obtain ⟨kb, ko, rfl, z0⟩ := text_at (own_rd HJ.out) hx
        rw [Nat.add_zero] at z0
        clear hx hgr
        go_wp2_with (go_at_call 16; refine HG1.out.mono ?_; rintro e V7 ⟨rfl, hb⟩; have H7 := Lib.hid (own_newRow (HJ.out.later hb) (g0, g1, g2, g3) 37); clear hb)
        go_roundw
        case rel => exact ⟨0 + 1, by omega, by go_num, Lib.hid H7.out.drop⟩
        case measure => simp [intOf]; omega
      | succ i =>
        obtain ⟨k', hx'⟩ : ∃ k, K[i]? = some k := ⟨_, List.getElem?_eq_getElem (by rw [HKl.out]; omega)⟩
        have htwo := HTwo.out i k' k hx' hx
        obtain ⟨⟨f0, f1, f2, f3⟩, hfr⟩ : ∃ g, getR k' L = g := ⟨_, rfl⟩
        have HG2 : Hid (∀ (X : List Rs) V, Own W.heap.size W (TabR tb most 2 L :: X) V → Calls Try.prog 16 #[ptrV tb, .string ⟨k'.toArray⟩] V fun e V2 => e = .returned (.tuple #[.agg #[.int .i64 f0, .int .i64 f1, .int .i64 f2, .int .i64 f3], .int .i64 0]) ∧ Below V.heap.size V V2) := Lib.hid (fun X V h => by
          have := HG.out _ _ _ h i k' hx'
          rw [hfr] at this
          exact this)
        rw [hgr, hfr] at htwo
        obtain ⟨xv, hxv⟩ : ∃ v, col (g0, g1, g2, g3) cc = v := ⟨_, rfl⟩
        obtain ⟨yv, hyv⟩ : ∃ v, col (f0, f1, f2, f3) cc = v := ⟨_, rfl⟩
        have hatx := r4V_at (g0, g1, g2, g3) cc hcc
        have haty := r4V_at (f0, f1, f2, f3) cc hcc
        rw [hxv] at hatx htwo
        rw [hyv] at haty htwo
        have HAt := Lib.hid (And.intro hatx haty)
        have HTx0 := Lib.hid (fun V (h : Rd V 1 ga N gk (textsV K)) => text_at h hx)
        have HTx1 := Lib.hid (fun V (h : Rd V 1 ga N gk (textsV K)) => text_at h hx')
        have i1 : (1 : Int) ≤ ((i + 1 : Nat) : Int) := by omega
        have i2 : ((i + 1 : Nat) : Int) - 1 = (i : Int) := by omega
        have i3 : (0 : Int) ≤ (i : Int) := by omega
        have i4 : (i : Int) < (N : Int) := by omega
        have hge := Ks.str_geq 9 k' k
        obtain ⟨kb, ko, e0, z0⟩ := HTx0.out _ (own_rd HJ.out)
        obtain ⟨kb', ko', e1, z1⟩ := HTx1.out _ (own_rd HJ.out)
        obtain ⟨rfl, rfl⟩ : kb' = kb ∧ ko' = ko := by rw [e0] at e1; cases e1; exact ⟨rfl, rfl⟩
        clear e1
        subst e0
        have HZ : Hid (∀ V, Below wr.heap.size wr V → V.cell? ⟨kb', ko' + (i + 1), none⟩ = some (.string ⟨k.toArray⟩) ∧ V.cell? ⟨kb', ko' + i, none⟩ = some (.string ⟨k'.toArray⟩)) := Lib.hid (fun V hb => ⟨old_cell z0 hb, old_cell z1 hb⟩)
        clear hx hx' hgr hfr hxv hyv hatx haty z1
        have tok6 : True := trivial
        rcases htwo with hlt2 | ⟨heq, hles⟩
        · have d1 : decide (xv < yv) = false := by simp; omega
          have d2 : decide (yv = xv) = false := by simp; omega
          have d3 : (yv == xv) = false := by simp; omega
          have d4 : ¬ yv = xv := by omega
          go_wp2_with (first
            | (go_at_call 16; have _t := tok6; refine HG1.out.mono ?_; rintro e V7 ⟨rfl, hb⟩; have H7 := Lib.hid (own_newRow (HJ.out.later hb) (g0, g1, g2, g3) 37); have HB7 := Lib.hid (hb.trans ((al1 V7 (.cells #[.int .i64 g0, .int .i64 g1, .int .i64 g2, .int .i64 g3] 37)).mono hb.size)); obtain ⟨q0, q1⟩ := HZ.out _ HB7.out; clear hb tok6 _t)
            | (go_at_call 16; refine (HG2.out _ _ H7.out.third).mono ?_; rintro e V8 ⟨rfl, hb⟩; have H8 := Lib.hid (own_newRow (H7.out.later hb) (f0, f1, f2, f3) 37); obtain ⟨s0, s1⟩ := HZ.out _ ((HB7.out.trans (hb.mono HB7.out.size)).trans ((al1 V8 (.cells #[.int .i64 f0, .int .i64 f1, .int .i64 f2, .int .i64 f3] 37)).mono (HB7.out.trans (hb.mono HB7.out.size)).size)); have p0 := own_cell H8.out HAt.out.2; have p1 := own_cell H8.out.swap HAt.out.1; obtain ⟨r0, r1⟩ := HX.out _ H8.out.low; clear hb))
          go_quiet (fail)
          go_wp2
          go_roundw
          case rel => exact ⟨i + 1 + 1, by omega, by go_num, Lib.hid (H8.out.drop.drop.later (below_drewN _ nq))⟩
          case measure => simp [intOf]; omega
        · subst heq
          have d1 : decide (yv < yv) = false := by simp
          have d2 : decide (yv = yv) = true := by simp
          have hles2 : Op.bytesLess k' k = true := hles
          rw [hles2] at hge
          clear hles2
          go_wp2_with (first
            | (go_at_call 16; have _t := tok6; refine HG1.out.mono ?_; rintro e V7 ⟨rfl, hb⟩; have H7 := Lib.hid (own_newRow (HJ.out.later hb) (g0, g1, g2, g3) 37); have HB7 := Lib.hid (hb.trans ((al1 V7 (.cells #[.int .i64 g0, .int .i64 g1, .int .i64 g2, .int .i64 g3] 37)).mono hb.size)); obtain ⟨q0, q1⟩ := HZ.out _ HB7.out; clear hb tok6 _t)
            | (go_at_call 16; refine (HG2.out _ _ H7.out.third).mono ?_; rintro e V8 ⟨rfl, hb⟩; have H8 := Lib.hid (own_newRow (H7.out.later hb) (f0, f1, f2, f3) 37); obtain ⟨s0, s1⟩ := HZ.out _ ((HB7.out.trans (hb.mono HB7.out.size)).trans ((al1 V8 (.cells #[.int .i64 f0, .int .i64 f1, .int .i64 f2, .int .i64 f3] 37)).mono (HB7.out.trans (hb.mono HB7.out.size)).size)); have p0 := own_cell H8.out HAt.out.2; have p1 := own_cell H8.out.swap HAt.out.1; obtain ⟨r0, r1⟩ := HX.out _ H8.out.low; clear hb))
          go_quiet (fail)
          go_wp2
          go_roundw
          case rel => exact ⟨i + 1 + 1, by omega, by go_num, Lib.hid (H8.out.drop.drop.later (below_drewN _ nq))⟩
          case measure => simp [intOf]; omega
    · obtain rfl : j = N := by omega
      have k3 : ¬ (j : Int) < (j : Int) := by omega
      obtain ⟨q0, q1⟩ := HX.out _ HJ.out.low
      have hrd := own_rd HJ.out
      by_cases hhigh : t1 = 9223372036854775807
      · have hNA : NA = j := by have := HEq.out hhigh; have := HNBA.out.1; omega
        subst hhigh
        clear hadd
        obtain rfl : j = NA := hNA.symm
        go_wp2_with (first
          | (go_at_call 14; have _t := tok2; refine (HF2.out _ _ _ HJ.out.swap).mono ?_; rintro e V5 ⟨aa, ak, rfl, hq⟩; have H5 := Lib.hid hq; obtain ⟨u0, u1⟩ := HX.out _ hq.low; have hrd := own_rd hq; have hak := hrd.le; have hac := hrd.cap; have hto := to_ex (P := Try.prog) 31 Try.underlying31 1 Try.sizeOf9 ga j gk .i64 j (by omega); obtain ⟨sa, hsa, hRS⟩ := slice_tail aa j ak MA NO HNBA.out.2 (by omega); have HRS := Lib.hid hRS; clear hRS hrd; clear hq tok2 _t)
          | (go_at_call 14; have _t := tok3; refine (HF3.out _ _ _ H5.out.swap).mono ?_; rintro e V6 ⟨oa, ok, rfl, hq⟩; have H6 := Lib.hid hq; obtain ⟨v0, v1⟩ := HX.out _ hq.low; have H6o := Lib.hid hq.swap; have HR1 := Lib.hid (And.intro (own_rdM hq (by simp) : Rd V6 1 aa j ak (textsV KA)) (And.intro (own_rdM hq (by simp) : Rd V6 1 ga j gk (textsV K)) (own_rd hq))); clear hq tok3 _t)
          | (go_at_call 17; have _t := tok4; refine (HTx.out V6 KA j HLn.out.1 HLn.out.2.1 _ _ _ _ HR1.out.1 (HTo.out _ _ _ HR1.out.2.1)).mono ?_; rintro e V7 ⟨rfl, hb⟩; have H7 := Lib.hid (H6.out.later hb); have HB7 := Lib.hid hb; clear hb tok4 _t)
          | (go_at_call 17; have _t := tok5; refine (HTx.out V7 KO NO HLn.out.2.2.1 HLn.out.2.2.2.1 _ _ _ _ (HR1.out.2.2.later HB7.out) (HSl.out _ _ _ (HRS.out _ _ (HR1.out.1.later HB7.out)))).mono ?_; rintro e V8 ⟨rfl, hb⟩; have H8 := Lib.hid (H7.out.later hb); obtain ⟨p0, p1⟩ := HX.out _ H8.out.low; clear hb tok5 _t)
          | (go_at_call 12; refine (HA.out _).mono ?_; rintro e V9 ⟨rfl, hb⟩; have H9 := Lib.hid ((H8.out.low).trans (hb.mono (H8.out.low).size)); clear hb))
        go_ret
        exact ⟨rfl, HEnd.out _ H9.out⟩
      · have hh1 : t1 < 9223372036854775807 := by omega
        have hh2 : decide (t1 = 9223372036854775807) = false := by simpa using hhigh
        have HF4 := Lib.hid (HF4.out hh1)
        go_wp2_with (first
          | (go_at_call 14; have _t := tok2; refine (HF2.out _ _ _ HJ.out.swap).mono ?_; rintro e V5 ⟨aa, ak, rfl, hq⟩; have H5 := Lib.hid hq; obtain ⟨u0, u1⟩ := HX.out _ hq.low; have hrd := own_rd hq; have hak := hrd.le; have hac := hrd.cap; have hto := to_ex (P := Try.prog) 31 Try.underlying31 1 Try.sizeOf9 ga j gk .i64 NA (by omega); obtain ⟨sa, hsa, hRS⟩ := slice_tail aa NA ak MA NO HNBA.out.2 (by omega); have HRS := Lib.hid hRS; clear hRS hrd; clear hq tok2 _t)
          | (go_at_call 14; have _t := tok3; refine (HF3.out _ _ _ H5.out.swap).mono ?_; rintro e V6 ⟨oa, ok, rfl, hq⟩; have H6 := Lib.hid hq; obtain ⟨v0, v1⟩ := HX.out _ hq.low; have H6o := Lib.hid hq.swap; have HR1 := Lib.hid (And.intro (own_rdM hq (by simp) : Rd V6 1 aa NA ak (textsV KA)) (And.intro (own_rdM hq (by simp) : Rd V6 1 ga j gk (textsV K)) (own_rd hq))); clear hq tok3 _t)
          | (go_at_call 17; have _t := tok4; refine (HTx.out V6 KA NA HLn.out.1 HLn.out.2.1 _ _ _ _ HR1.out.1 (HTo.out _ _ _ HR1.out.2.1)).mono ?_; rintro e V7 ⟨rfl, hb⟩; have H7 := Lib.hid (H6.out.later hb); have HB7 := Lib.hid hb; clear hb tok4 _t)
          | (go_at_call 17; have _t := tok5; refine (HTx.out V7 KO NO HLn.out.2.2.1 HLn.out.2.2.2.1 _ _ _ _ (HR1.out.2.2.later HB7.out) (HSl.out _ _ _ (HRS.out _ _ (HR1.out.1.later HB7.out)))).mono ?_; rintro e V8 ⟨rfl, hb⟩; have H8 := Lib.hid (H7.out.later hb); obtain ⟨p0, p1⟩ := HX.out _ H8.out.low; clear hb tok5 _t)
          | (go_at_call 14; refine (HF4.out _ _ _ H8.out.swap).mono ?_; rintro e V10 ⟨ba, bk, rfl, hq⟩; have H10 := Lib.hid hq; have HR2 := Lib.hid (And.intro (own_rdM hq (by simp) : Rd V10 1 ga j gk (textsV K)) (own_rd hq)); obtain ⟨sb, hsb, hRS2⟩ := slice_tail ga j gk NA NB HNBA.out.1 (by omega); have HRS2 := Lib.hid hRS2; clear hRS2; clear hq)
          | (go_at_call 17; refine (HTx.out V10 Z NB HLn.out.2.2.2.2.1 HLn.out.2.2.2.2.2 _ _ _ _ HR2.out.2 (HSm.out _ _ _ (HRS2.out _ _ HR2.out.1))).mono ?_; rintro e V11 ⟨rfl, hb⟩; have H11 := Lib.hid (H10.out.later hb); clear hb)
          | (go_at_call 12; refine (HA.out _).mono ?_; rintro e V9 ⟨rfl, hb⟩; have H9 := Lib.hid ((H11.out.low).trans (hb.mono (H11.out.low).size)); clear hb))
        go_ret
        exact ⟨rfl, HEnd.out _ H9.out⟩
end Tb
end Go.Proofs.Ytecnijnmgdfdhaa
