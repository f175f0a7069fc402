/- Package sched: Acts. -/
import Derived.Test.YtpfcghigfkhimaaSched6
namespace Go.Proofs.Ytpfcghigfkhimaa
open Go.RowKit

theorem Try.infoAct : (Try.prog.info? 35).map (fun i => (i.zero, i.size, i.bytes)) = some (some (.agg #[.int .i64 0, .int .i64 0, .int .i64 0]), 3, 24) := by kernel_rfl
theorem acts_nil (b : Bool) (v : Value) (w : World) : Calls Try.prog 11 #[.pointer none, .bool b, v] w fun e w' => e = .returned (.slice none 0 0) ∧ w = w' := by
  go_enter Try.func11, Try.ntmps11
  go_wp2
  go_ret
  exact ⟨rfl, rfl⟩
/-- All numbers are numbers. -/
def WfI (L : List Int) : Prop := ∀ i ∈ L, (Lit.int .i64 i).wf = true
def WfO (st : List (Option Int)) : Prop := ∀ o ∈ st, ∀ i, o = some i → (Lit.int .i64 i).wf = true
theorem WfO.look {st : List (Option Int)} (h : WfO st) {v i : Int} (hl : look st v = some i) : (Lit.int .i64 i).wf = true := by
  unfold Go.Proofs.Ytpfcghigfkhimaa.look at hl
  split at hl
  · cases hx : st[v.toNat]? with
    | none => rw [hx] at hl; cases hl
    | some o =>
      rw [hx] at hl
      exact h o (List.mem_of_getElem? hx) i (by simpa using hl)
  · cases hl
theorem al1 (w : World) (o : Obj) : Below w.heap.size w (w.alloc o) := (Below.refl _ _).alloc (Nat.le_refl _) _
theorem sl_snoc {w : World} {F : Foot} {a : Option Addr} {c : Nat} {L : List ActT} {x : ActT} (h : Sl w 3 F a (L.length + 1) c (actsV (L ++ [x]))) : Sl w 3 F a (L ++ [x]).length c (actsV (L ++ [x])) := by
  rw [List.length_append]; exact h
theorem intsV_get {L : List Int} {k : Nat} {i : Int} (h : L[k]? = some i) : (intsV L)[k]? = some (.int .i64 i) := by simp [intsV, h]
theorem ints_at {w : World} {a : Option Addr} {n c : Nat} {L : List Int} (h : Rd w 1 a n c (intsV L)) {k : Nat} {i : Int} (hk : L[k]? = some i) : ∃ b o, a = some ⟨b, o, none⟩ ∧ w.cell? ⟨b, o + k, none⟩ = some (.int .i64 i) := by
  have h1 := intsV_get hk
  obtain ⟨b, o, e, hc⟩ := h.addr (by intro h0; rw [h0] at h1; simp at h1)
  exact ⟨b, o, e, hc k _ h1⟩
theorem startsOf_succ {il : List Int} {j : Nat} {v id : Int} (h : il[j]? = some v) : startsOf (il.take (j + 1)) id = startsOf (il.take j) id ++ [(2, v, id)] := by
  unfold startsOf
  rw [List.take_add_one, h, List.map_append]
  rfl

set_option maxRecDepth 100000 in
set_option maxHeartbeats 4000000 in
theorem acts_true (g sb : Nat) (chs : List Nat) (st : List (Option Int)) (ar : Option Addr) (cr : Nat) (ready : List Int) (hn : ready.length ≤ 1000) (w : World) (h : Brd w g sb chs st) (hr : Rd w 1 ar ready.length cr (intsV ready)) (hws : WfO st) (hwr : WfI ready) :
    Calls Try.prog 11 #[.pointer (some ⟨g, 0, none⟩), .bool true, .slice ar ready.length cr] w fun e w' => ∃ a c, e = .returned (.slice a (actsL st chs.length true ready).length c) ∧ Rd w' 3 a (actsL st chs.length true ready).length c (actsV (actsL st chs.length true ready)) ∧ Brd w' g sb chs st ∧ Fr (bF chs) w w' := by
  obtain ⟨i0, hi, hz0, hz1, hz2⟩ := info_parts Try.infoAct
  have hmm := @run_makeMap Try.prog
  have HB := Lib.hid h
  have HR := Lib.hid hr
  have H0 := Lib.hid (fun b o hb => (Brd.below g sb chs st h b o hb).2)
  have hgl : g < w.heap.size := block_of_cell h.ptr
  have hfew := h.few
  have HW := Lib.hid (And.intro hws hwr)
  clear h hr hws hwr
  go_enter Try.func11, Try.ntmps11
  go_wp2_with (first
    | (at_builtin; refine wpList_app_sl rfl (.tmp 23) (.tmp 25) 29 rfl 35 i0 _ 3 24 Try.underlying29 hi hz0 hz1 hz2 rfl (by decide) noCells none 0 0 (actsV []) rfl (Sl.none_ _ 3) (fun _ _ h => h.elim) (some ⟨w.heap.size, 0, none⟩) 1 1 (actsV [(1, 0, 0)]) rfl (act_made w 1 0 0 _) 1 (actsV [(1, 0, 0)]) rfl rfl (by decide) (by decide) ?_; intro a1 c1 w1 F1 hsl hfr hgr hli; have H1 := Lib.hid (And.intro hsl (And.intro hfr (And.intro hgr hli))); have p1 := (Brd.stay g sb chs st HB.out (HB.out.later ((Below.refl _ _).alloc (Nat.le_refl _) (.cells #[.int .i64 1, .int .i64 0, .int .i64 0] 35))) hfr (fun _ _ h => h.elim)).ptr; have hgl1 : g < w1.heap.size := block_of_cell p1; clear hsl hfr hgr hli))
  have HJ := Lib.hid (J.start (As := [(1, 0, 0)]) HB.out (Brd.stay g sb chs st HB.out (HB.out.later (al1 w (.cells #[.int .i64 1, .int .i64 0, .int .i64 0] 35))) H1.out.2.1 (fun _ _ h => h.elim)) (((Fr.refl (bF chs) w).alloc _).trans H1.out.2.1 (fun _ _ h => h.elim)) H1.out.1 H1.out.2.2.2 (fun b o hb => by
    rcases H1.out.2.2.1 b o hb with h | h
    · exact h.elim
    · rw [World.size_alloc] at h; omega))
  generalize w1.alloc (.map #[] 0) = W1 at *
  generalize w1.heap.size = M at *
  clear p1 hgl1
  go_loopw [8, 33] (fun s t wr => ∃ (m : Nat) (ae : Option Addr) (ce : Nat), m ≤ chs.length ∧ t = .int .i64 m ∧ s = .slice ae (finL st m).length ce ∧ Hid (∃ Fe, J w wr g sb chs st M (busyL st m) F1 a1 c1 [(1, 0, 0)] Fe ae ce (finL st m) noCells none 0 [])) (fun _ t _ => chs.length - (intOf t).toNat)
  case atStart => exact ⟨0, none, 0, by omega, rfl, rfl, Lib.hid ⟨noCells, HJ.out⟩⟩
  case round =>
    obtain ⟨m, ae, ce, hm, rfl, rfl, HS⟩ := hrel
    obtain ⟨wo, rfl⟩ : ∃ wo : World, wo = wr := ⟨_, rfl⟩
    obtain ⟨Fe, hj0⟩ := HS.out
    have HJ0 := Lib.hid hj0
    clear hj0 HS
    have hfl := (finL_len st m).1
    have hbl := (finL_len st m).2
    have hbl2 : (busyL st m).length ≤ 16 := by omega
    clear hbl
    by_cases hmt : m < chs.length
    · cases hlk : look st (m : Int) with
      | none =>
        have HE : Hid (finL st (m + 1) = finL st m ∧ busyL st (m + 1) = busyL st m) := Lib.hid (by rw [finL, busyL, hlk]; simp)
        have HDm := Lib.hid (does_none g sb chs st (m : Int) hlk wo HJ0.out.brd)
        clear hlk
        go_wp2_with (go_at_call 12; refine HDm.out.mono ?_; rintro e w2 ⟨rfl, rfl⟩)
        go_roundw
        case rel => exact ⟨m + 1, ae, ce, by omega, by go_num, by rw [HE.out.1], Lib.hid ⟨Fe, by rw [HE.out.1, HE.out.2]; exact HJ0.out⟩⟩
        case measure => simp [intOf]; omega
      | some d =>
        have HE : Hid (finL st (m + 1) = finL st m ++ [(3, (m : Int), d)] ∧ busyL st (m + 1) = busyL st m ++ [d]) := Lib.hid (by rw [finL, busyL, hlk]; simp)
        have HDm := Lib.hid (does_some g sb chs st (m : Int) d hlk wo HJ0.out.brd)
        have hwd := HW.out.1.look hlk
        clear hlk
        go_wp2_with (first
          | (go_at_call 12; refine HDm.out.mono ?_; rintro e w2 ⟨rfl, hb⟩; have HJ1 := Lib.hid (HJ0.out.chan H0.out hb.2 hb.1); clear hb)
          | (at_mapUpdate; refine wpList_put_iset rfl (.tmp 43) (.tmp 44) (.tmp 45) rfl M (busyL st m) d rfl rfl rfl HJ1.out.m hwd (by omega) ?_; intro w3 hm3 hf3; have HJ2 := Lib.hid (HJ1.out.put HB.out hf3 hm3); clear hm3 hf3)
          | (at_builtin; refine wpList_app_sl rfl (.tmp 46) (.tmp 50) 29 rfl 35 i0 _ 3 24 Try.underlying29 hi hz0 hz1 hz2 rfl (by decide) Fe ae (finL st m).length ce (actsV (finL st m)) rfl (HJ2.out.e.laid _) (HJ2.out.le.laid _) (some ⟨w3.heap.size, 0, none⟩) 1 1 (actsV [(3, (m : Int), d)]) rfl (act_made w3 3 (m : Int) d _) ((finL st m).length + 1) (actsV (finL st m ++ [(3, (m : Int), d)])) rfl (actsV_append (finL st m) [(3, (m : Int), d)]).symm (by unfold maxLen; omega) (by omega) ?_; intro a4 c4 w4 F4 hsl hfr hgr hli; have HJ3 := Lib.hid (J.growE (HJ2.out.later (al1 w3 _)) HB.out (sl_snoc hsl) hfr hgr hli); clear hsl hfr hgr hli))
        go_roundw
        case rel => exact ⟨m + 1, a4, c4, by omega, by go_num, by rw [HE.out.1, List.length_append]; rfl, Lib.hid ⟨F4, by rw [HE.out.1, HE.out.2]; exact HJ3.out⟩⟩
        case measure => simp [intOf]; omega
    · obtain rfl : m = chs.length := by omega
      have hsum := idle_fin_len st chs.length
      have hil : (idleL st chs.length).length ≤ 16 := by omega
      clear hsum
      go_wp2_with (go_at_call 13; refine (idle_any g sb chs st _ HJ0.out.brd).mono ?_; rintro e w5 ⟨a5, c5, rfl, hl5, hb5⟩; have HI := Lib.hid (HJ0.out.idle H0.out hl5 hb5); clear hl5 hb5)
      obtain ⟨Fi, hji⟩ := HI.out
      have HJi := Lib.hid hji
      clear hji HI HJ0
      have HFB : Hid (actsL st chs.length true ready = [(1, 0, 0)] ++ startsL (idleL st chs.length) (busyL st chs.length) ready ++ finL st chs.length) := Lib.hid (by unfold actsL; rfl)
      generalize idleL st chs.length = il at *
      generalize finL st chs.length = Es at *
      generalize busyL st chs.length = S0 at *
      go_loopw [7, 57] (fun s t wr => ∃ (k : Nat) (seen : List Int) (aa : Option Addr) (ca : Nat) (As : List ActT), k ≤ ready.length ∧ t = .int .i64 k ∧ s = .slice aa As.length ca ∧ As.length ≤ 1 + k * 16 ∧ seen.length ≤ 16 + k ∧
        Hid (∃ Fa, J w wr g sb chs st M seen Fa aa ca As Fe ae ce Es Fi a5 c5 il ∧ As ++ startsL il seen (ready.drop k) = [(1, 0, 0)] ++ startsL il S0 ready)) (fun _ t _ => ready.length - (intOf t).toNat)
      case atStart => exact ⟨0, S0, a1, c1, [(1, 0, 0)], by omega, rfl, rfl, by simp, by omega, Lib.hid ⟨F1, HJi.out, by simp⟩⟩
      case round =>
        clear HJi
        obtain ⟨k, seen, aa, ca, As, hk, rfl, rfl, hAl, hsl, HS⟩ := hrel
        obtain ⟨wp, rfl⟩ : ∃ wp : World, wp = wr := ⟨_, rfl⟩
        obtain ⟨Fa, hj1, hrest⟩ := HS.out
        have HJ1 := Lib.hid hj1
        have HRE := Lib.hid hrest
        clear hj1 hrest HS
        by_cases hkt : k < ready.length
        · obtain ⟨id, hid⟩ : ∃ id, ready[k]? = some id := ⟨_, List.getElem?_eq_getElem hkt⟩
          have hwid := HW.out.2 id (List.mem_of_getElem? hid)
          obtain ⟨br, or, rfl, cid⟩ := ints_at (HR.out.fr HJ1.out.fr (fun b o u hc => HB.out.no_cell hc)) hid
          have hdrop : ready.drop k = id :: ready.drop (k + 1) := by
            rw [List.drop_eq_getElem_cons hkt]
            rw [List.getElem?_eq_getElem hkt] at hid
            rw [Option.some.inj hid]
          have HDR := Lib.hid hdrop
          clear hid hdrop
          have k0 : (0 : Int) ≤ (k : Int) := by omega
          have k1 : (k : Int) < (ready.length : Int) := by omega
          by_cases hc : seen.contains id = true
          · have hlook := HJ1.out.m.look hwid true hc
            have HC := Lib.hid hc
            clear hc
            go_wp2
            go_roundw
            case rel => exact ⟨k + 1, seen, aa, ca, As, by omega, by go_num, rfl, by omega, by omega, Lib.hid ⟨Fa, HJ1.out.later (al1 wp _), by
              rw [← HRE.out, HDR.out, startsL, if_pos HC.out]⟩⟩
            case measure => simp [intOf]; omega
          · have hc' : seen.contains id = false := by simpa using hc
            have hlook := HJ1.out.m.look hwid false hc'
            have HC := Lib.hid hc'
            clear hc hc'
            go_wp2_with (first
              | (at_mapUpdate; refine wpList_put_iset rfl (.tmp 68) (.tmp 69) (.tmp 70) rfl M seen id rfl rfl rfl (HJ1.out.later (al1 wp _)).m hwid (by omega) ?_; intro w6 hm6 hf6; have HJ2 := Lib.hid ((HJ1.out.later (al1 wp _)).put HB.out hf6 hm6); clear hm6 hf6))
            clear hlook cid
            go_loopw [7, 73] (fun s t wr => ∃ (j : Nat) (aa' : Option Addr) (ca' : Nat), j ≤ il.length ∧ t = .int .i64 j ∧ s = .slice aa' (As.length + j) ca' ∧
              Hid (∃ Fa', J w wr g sb chs st M (seen ++ [id]) Fa' aa' ca' (As ++ startsOf (il.take j) id) Fe ae ce Es Fi a5 c5 il)) (fun _ t _ => il.length - (intOf t).toNat)
            case atStart => exact ⟨0, aa, ca, by omega, rfl, rfl, Lib.hid ⟨Fa, by simpa [startsOf] using HJ2.out⟩⟩
            case round =>
              clear HJ2
              obtain ⟨j, aa', ca', hj, rfl, rfl, HT⟩ := hrel
              obtain ⟨wq, rfl⟩ : ∃ wq : World, wq = wr := ⟨_, rfl⟩
              obtain ⟨Fa', hj3⟩ := HT.out
              have HJ3 := Lib.hid hj3
              have hsl3 : Sl wq 3 Fa' aa' (As.length + j) ca' (actsV (As ++ startsOf (il.take j) id)) := by
                have h1 := hj3.a
                have h2 : (As ++ startsOf (il.take j) id).length = As.length + j := by
                  unfold startsOf
                  rw [List.length_append, List.length_map, List.length_take, Nat.min_eq_left hj]
                rwa [h2] at h1
              have HSL := Lib.hid hsl3
              clear hj3 HT hsl3
              by_cases hjt : j < il.length
              · obtain ⟨v, hv⟩ : ∃ v, il[j]? = some v := ⟨_, List.getElem?_eq_getElem hjt⟩
                obtain ⟨b5, o5, rfl, cv⟩ := ints_at HJ3.out.i.rd hv
                have HSS := Lib.hid (startsOf_succ (id := id) hv)
                clear hv
                have j0 : (0 : Int) ≤ (j : Int) := by omega
                have j1 : (j : Int) < (il.length : Int) := by omega
                go_wp2_with (first
                  | (at_builtin; refine wpList_app_sl rfl (.tmp 77) (.tmp 81) 29 rfl 35 i0 _ 3 24 Try.underlying29 hi hz0 hz1 hz2 rfl (by decide) Fa' aa' (As.length + j) ca' (actsV (As ++ startsOf (il.take j) id)) rfl (HSL.out.laid _) (HJ3.out.la.laid _) (some ⟨wq.heap.size, 0, none⟩) 1 1 (actsV [(2, v, id)]) rfl (act_made wq 2 v id _) (As.length + j + 1) (actsV ((As ++ startsOf (il.take j) id) ++ [(2, v, id)])) rfl (actsV_append (As ++ startsOf (il.take j) id) [(2, v, id)]).symm (by unfold maxLen; omega) (by omega) ?_; intro a7 c7 w7 F7 hsl7 hfr7 hgr7 hli7; have H7 := Lib.hid (And.intro hsl7 (And.intro hfr7 (And.intro hgr7 hli7))); clear hsl7 hfr7 hgr7 hli7))
                go_roundw
                case rel =>
                  refine ⟨j + 1, a7, c7, by omega, by go_num, rfl, Lib.hid ⟨F7, ?_⟩⟩
                  rw [HSS.out, ← List.append_assoc]
                  refine J.growA (HJ3.out.later (al1 wq _)) HB.out ?_ H7.out.2.1 H7.out.2.2.1 H7.out.2.2.2
                  have h2 : ((As ++ startsOf (il.take j) id) ++ [(2, v, id)]).length = As.length + j + 1 := by
                    unfold startsOf
                    rw [List.length_append, List.length_append, List.length_map, List.length_take, Nat.min_eq_left hj]; rfl
                  rw [h2]
                  exact H7.out.1
                case measure => simp [intOf]; omega
              · obtain rfl : j = il.length := by omega
                go_wp2
                go_roundw
                case rel =>
                  have h2 : (As ++ startsOf il id).length = As.length + il.length := by
                    unfold startsOf
                    rw [List.length_append, List.length_map]
                  refine ⟨k + 1, seen ++ [id], aa', ca', As ++ startsOf il id, by omega, by go_num, by rw [h2], by rw [h2]; omega, by rw [List.length_append]; simp; omega, Lib.hid ⟨Fa', ?_, ?_⟩⟩
                  · have := HJ3.out
                    rwa [List.take_length] at this
                  · rw [← HRE.out, HDR.out, startsL, HC.out, List.append_assoc]; simp
                case measure => simp [intOf]; omega
        · obtain rfl : k = ready.length := by omega
          have he := HRE.out
          rw [List.drop_length, startsL, List.append_nil] at he
          have HEQ := Lib.hid he
          clear he
          have hlen : (actsL st chs.length true ready).length = As.length + Es.length := by rw [HFB.out, ← HEQ.out, List.length_append]
          have HLEN := Lib.hid hlen
          clear hlen
          go_wp2_with (first
            | (at_builtin; refine wpList_app_sl rfl (.tmp 85) (.tmp 86) 29 rfl 35 i0 _ 3 24 Try.underlying29 hi hz0 hz1 hz2 rfl (by decide) Fa aa As.length ca (actsV As) rfl HJ1.out.a HJ1.out.la ae Es.length ce (actsV Es) rfl HJ1.out.e.rd (As.length + Es.length) (actsV (As ++ Es)) rfl (actsV_append As Es).symm (by unfold maxLen; omega) (by omega) ?_; intro a8 c8 w8 F8 hsl8 hfr8 hgr8 hli8; have H8 := Lib.hid (And.intro hsl8 (And.intro hfr8 (And.intro hgr8 hli8))); clear hsl8 hfr8 hgr8 hli8))
          rw [← HLEN.out]
          go_ret
          have hJ := J.growA HJ1.out HB.out (As' := As ++ Es) (by rw [List.length_append]; exact H8.out.1) H8.out.2.1 H8.out.2.2.1 H8.out.2.2.2
          refine ⟨a8, c8, rfl, ?_, hJ.brd, hJ.fr⟩
          rw [HLEN.out, HFB.out, ← HEQ.out]
          exact H8.out.1.rd

set_option maxRecDepth 100000 in
set_option maxHeartbeats 4000000 in
theorem acts_false (g sb : Nat) (chs : List Nat) (st : List (Option Int)) (ar : Option Addr) (cr : Nat) (ready : List Int) (hn : ready.length ≤ 1000) (w : World) (h : Brd w g sb chs st) (hr : Rd w 1 ar ready.length cr (intsV ready)) (hws : WfO st) (hwr : WfI ready) :
    Calls Try.prog 11 #[.pointer (some ⟨g, 0, none⟩), .bool false, .slice ar ready.length cr] w fun e w' => ∃ a c, e = .returned (.slice a (actsL st chs.length false ready).length c) ∧ Rd w' 3 a (actsL st chs.length false ready).length c (actsV (actsL st chs.length false ready)) ∧ Brd w' g sb chs st ∧ Fr (bF chs) w w' := by
  obtain ⟨i0, hi, hz0, hz1, hz2⟩ := info_parts Try.infoAct
  have hmm := @run_makeMap Try.prog
  have HB := Lib.hid h
  have HR := Lib.hid hr
  have H0 := Lib.hid (fun b o hb => (Brd.below g sb chs st h b o hb).2)
  have hgl : g < w.heap.size := block_of_cell h.ptr
  have hfew := h.few
  have HW := Lib.hid (And.intro hws hwr)
  have p1 := h.ptr
  clear h hr hws hwr
  go_enter Try.func11, Try.ntmps11
  go_wp2
  have HJ := Lib.hid (J.start (Fa := noCells) (As := []) HB.out HB.out (Fr.refl (bF chs) w) (Sl.none_ _ 3) (fun _ _ h => h.elim) (fun _ _ h => h.elim))
  generalize w.alloc (.map #[] 0) = W1 at *
  obtain ⟨M, hM⟩ : ∃ M, M = w.heap.size := ⟨_, rfl⟩
  rw [← hM] at HJ ⊢
  clear hM
  clear p1
  go_loopw [8, 33] (fun s t wr => ∃ (m : Nat) (ae : Option Addr) (ce : Nat), m ≤ chs.length ∧ t = .int .i64 m ∧ s = .slice ae (finL st m).length ce ∧ Hid (∃ Fe, J w wr g sb chs st M (busyL st m) noCells none 0 [] Fe ae ce (finL st m) noCells none 0 [])) (fun _ t _ => chs.length - (intOf t).toNat)
  case atStart => exact ⟨0, none, 0, by omega, rfl, rfl, Lib.hid ⟨noCells, HJ.out⟩⟩
  case round =>
    obtain ⟨m, ae, ce, hm, rfl, rfl, HS⟩ := hrel
    obtain ⟨wo, rfl⟩ : ∃ wo : World, wo = wr := ⟨_, rfl⟩
    obtain ⟨Fe, hj0⟩ := HS.out
    have HJ0 := Lib.hid hj0
    clear hj0 HS
    have hfl := (finL_len st m).1
    have hbl := (finL_len st m).2
    have hbl2 : (busyL st m).length ≤ 16 := by omega
    clear hbl
    by_cases hmt : m < chs.length
    · cases hlk : look st (m : Int) with
      | none =>
        have HE : Hid (finL st (m + 1) = finL st m ∧ busyL st (m + 1) = busyL st m) := Lib.hid (by rw [finL, busyL, hlk]; simp)
        have HDm := Lib.hid (does_none g sb chs st (m : Int) hlk wo HJ0.out.brd)
        clear hlk
        go_wp2_with (go_at_call 12; refine HDm.out.mono ?_; rintro e w2 ⟨rfl, rfl⟩)
        go_roundw
        case rel => exact ⟨m + 1, ae, ce, by omega, by go_num, by rw [HE.out.1], Lib.hid ⟨Fe, by rw [HE.out.1, HE.out.2]; exact HJ0.out⟩⟩
        case measure => simp [intOf]; omega
      | some d =>
        have HE : Hid (finL st (m + 1) = finL st m ++ [(3, (m : Int), d)] ∧ busyL st (m + 1) = busyL st m ++ [d]) := Lib.hid (by rw [finL, busyL, hlk]; simp)
        have HDm := Lib.hid (does_some g sb chs st (m : Int) d hlk wo HJ0.out.brd)
        have hwd := HW.out.1.look hlk
        clear hlk
        go_wp2_with (first
          | (go_at_call 12; refine HDm.out.mono ?_; rintro e w2 ⟨rfl, hb⟩; have HJ1 := Lib.hid (HJ0.out.chan H0.out hb.2 hb.1); clear hb)
          | (at_mapUpdate; refine wpList_put_iset rfl (.tmp 43) (.tmp 44) (.tmp 45) rfl M (busyL st m) d rfl rfl rfl HJ1.out.m hwd (by omega) ?_; intro w3 hm3 hf3; have HJ2 := Lib.hid (HJ1.out.put HB.out hf3 hm3); clear hm3 hf3)
          | (at_builtin; refine wpList_app_sl rfl (.tmp 46) (.tmp 50) 29 rfl 35 i0 _ 3 24 Try.underlying29 hi hz0 hz1 hz2 rfl (by decide) Fe ae (finL st m).length ce (actsV (finL st m)) rfl (HJ2.out.e.laid _) (HJ2.out.le.laid _) (some ⟨w3.heap.size, 0, none⟩) 1 1 (actsV [(3, (m : Int), d)]) rfl (act_made w3 3 (m : Int) d _) ((finL st m).length + 1) (actsV (finL st m ++ [(3, (m : Int), d)])) rfl (actsV_append (finL st m) [(3, (m : Int), d)]).symm (by unfold maxLen; omega) (by omega) ?_; intro a4 c4 w4 F4 hsl hfr hgr hli; have HJ3 := Lib.hid (J.growE (HJ2.out.later (al1 w3 _)) HB.out (sl_snoc hsl) hfr hgr hli); clear hsl hfr hgr hli))
        go_roundw
        case rel => exact ⟨m + 1, a4, c4, by omega, by go_num, by rw [HE.out.1, List.length_append]; rfl, Lib.hid ⟨F4, by rw [HE.out.1, HE.out.2]; exact HJ3.out⟩⟩
        case measure => simp [intOf]; omega
    · obtain rfl : m = chs.length := by omega
      have hsum := idle_fin_len st chs.length
      have hil : (idleL st chs.length).length ≤ 16 := by omega
      clear hsum
      go_wp2_with (go_at_call 13; refine (idle_any g sb chs st _ HJ0.out.brd).mono ?_; rintro e w5 ⟨a5, c5, rfl, hl5, hb5⟩; have HI := Lib.hid (HJ0.out.idle H0.out hl5 hb5); clear hl5 hb5)
      obtain ⟨Fi, hji⟩ := HI.out
      have HJi := Lib.hid hji
      clear hji HI HJ0
      have HFB : Hid (actsL st chs.length false ready = [] ++ startsL (idleL st chs.length) (busyL st chs.length) ready ++ finL st chs.length) := Lib.hid (by unfold actsL; rfl)
      generalize idleL st chs.length = il at *
      generalize finL st chs.length = Es at *
      generalize busyL st chs.length = S0 at *
      go_loopw [7, 57] (fun s t wr => ∃ (k : Nat) (seen : List Int) (aa : Option Addr) (ca : Nat) (As : List ActT), k ≤ ready.length ∧ t = .int .i64 k ∧ s = .slice aa As.length ca ∧ As.length ≤ 1 + k * 16 ∧ seen.length ≤ 16 + k ∧
        Hid (∃ Fa, J w wr g sb chs st M seen Fa aa ca As Fe ae ce Es Fi a5 c5 il ∧ As ++ startsL il seen (ready.drop k) = [] ++ startsL il S0 ready)) (fun _ t _ => ready.length - (intOf t).toNat)
      case atStart => exact ⟨0, S0, none, 0, [], by omega, rfl, rfl, by simp, by omega, Lib.hid ⟨noCells, HJi.out, by simp⟩⟩
      case round =>
        clear HJi
        obtain ⟨k, seen, aa, ca, As, hk, rfl, rfl, hAl, hsl, HS⟩ := hrel
        obtain ⟨wp, rfl⟩ : ∃ wp : World, wp = wr := ⟨_, rfl⟩
        obtain ⟨Fa, hj1, hrest⟩ := HS.out
        have HJ1 := Lib.hid hj1
        have HRE := Lib.hid hrest
        clear hj1 hrest HS
        by_cases hkt : k < ready.length
        · obtain ⟨id, hid⟩ : ∃ id, ready[k]? = some id := ⟨_, List.getElem?_eq_getElem hkt⟩
          have hwid := HW.out.2 id (List.mem_of_getElem? hid)
          obtain ⟨br, or, rfl, cid⟩ := ints_at (HR.out.fr HJ1.out.fr (fun b o u hc => HB.out.no_cell hc)) hid
          have hdrop : ready.drop k = id :: ready.drop (k + 1) := by
            rw [List.drop_eq_getElem_cons hkt]
            rw [List.getElem?_eq_getElem hkt] at hid
            rw [Option.some.inj hid]
          have HDR := Lib.hid hdrop
          clear hid hdrop
          have k0 : (0 : Int) ≤ (k : Int) := by omega
          have k1 : (k : Int) < (ready.length : Int) := by omega
          by_cases hc : seen.contains id = true
          · have hlook := HJ1.out.m.look hwid true hc
            have HC := Lib.hid hc
            clear hc
            go_wp2
            go_roundw
            case rel => exact ⟨k + 1, seen, aa, ca, As, by omega, by go_num, rfl, by omega, by omega, Lib.hid ⟨Fa, HJ1.out.later (al1 wp _), by
              rw [← HRE.out, HDR.out, startsL, if_pos HC.out]⟩⟩
            case measure => simp [intOf]; omega
          · have hc' : seen.contains id = false := by simpa using hc
            have hlook := HJ1.out.m.look hwid false hc'
            have HC := Lib.hid hc'
            clear hc hc'
            go_wp2_with (first
              | (at_mapUpdate; refine wpList_put_iset rfl (.tmp 68) (.tmp 69) (.tmp 70) rfl M seen id rfl rfl rfl (HJ1.out.later (al1 wp _)).m hwid (by omega) ?_; intro w6 hm6 hf6; have HJ2 := Lib.hid ((HJ1.out.later (al1 wp _)).put HB.out hf6 hm6); clear hm6 hf6))
            clear hlook cid
            go_loopw [7, 73] (fun s t wr => ∃ (j : Nat) (aa' : Option Addr) (ca' : Nat), j ≤ il.length ∧ t = .int .i64 j ∧ s = .slice aa' (As.length + j) ca' ∧
              Hid (∃ Fa', J w wr g sb chs st M (seen ++ [id]) Fa' aa' ca' (As ++ startsOf (il.take j) id) Fe ae ce Es Fi a5 c5 il)) (fun _ t _ => il.length - (intOf t).toNat)
            case atStart => exact ⟨0, aa, ca, by omega, rfl, rfl, Lib.hid ⟨Fa, by simpa [startsOf] using HJ2.out⟩⟩
            case round =>
              clear HJ2
              obtain ⟨j, aa', ca', hj, rfl, rfl, HT⟩ := hrel
              obtain ⟨wq, rfl⟩ : ∃ wq : World, wq = wr := ⟨_, rfl⟩
              obtain ⟨Fa', hj3⟩ := HT.out
              have HJ3 := Lib.hid hj3
              have hsl3 : Sl wq 3 Fa' aa' (As.length + j) ca' (actsV (As ++ startsOf (il.take j) id)) := by
                have h1 := hj3.a
                have h2 : (As ++ startsOf (il.take j) id).length = As.length + j := by
                  unfold startsOf
                  rw [List.length_append, List.length_map, List.length_take, Nat.min_eq_left hj]
                rwa [h2] at h1
              have HSL := Lib.hid hsl3
              clear hj3 HT hsl3
              by_cases hjt : j < il.length
              · obtain ⟨v, hv⟩ : ∃ v, il[j]? = some v := ⟨_, List.getElem?_eq_getElem hjt⟩
                obtain ⟨b5, o5, rfl, cv⟩ := ints_at HJ3.out.i.rd hv
                have HSS := Lib.hid (startsOf_succ (id := id) hv)
                clear hv
                have j0 : (0 : Int) ≤ (j : Int) := by omega
                have j1 : (j : Int) < (il.length : Int) := by omega
                go_wp2_with (first
                  | (at_builtin; refine wpList_app_sl rfl (.tmp 77) (.tmp 81) 29 rfl 35 i0 _ 3 24 Try.underlying29 hi hz0 hz1 hz2 rfl (by decide) Fa' aa' (As.length + j) ca' (actsV (As ++ startsOf (il.take j) id)) rfl (HSL.out.laid _) (HJ3.out.la.laid _) (some ⟨wq.heap.size, 0, none⟩) 1 1 (actsV [(2, v, id)]) rfl (act_made wq 2 v id _) (As.length + j + 1) (actsV ((As ++ startsOf (il.take j) id) ++ [(2, v, id)])) rfl (actsV_append (As ++ startsOf (il.take j) id) [(2, v, id)]).symm (by unfold maxLen; omega) (by omega) ?_; intro a7 c7 w7 F7 hsl7 hfr7 hgr7 hli7; have H7 := Lib.hid (And.intro hsl7 (And.intro hfr7 (And.intro hgr7 hli7))); clear hsl7 hfr7 hgr7 hli7))
                go_roundw
                case rel =>
                  refine ⟨j + 1, a7, c7, by omega, by go_num, rfl, Lib.hid ⟨F7, ?_⟩⟩
                  rw [HSS.out, ← List.append_assoc]
                  refine J.growA (HJ3.out.later (al1 wq _)) HB.out ?_ H7.out.2.1 H7.out.2.2.1 H7.out.2.2.2
                  have h2 : ((As ++ startsOf (il.take j) id) ++ [(2, v, id)]).length = As.length + j + 1 := by
                    unfold startsOf
                    rw [List.length_append, List.length_append, List.length_map, List.length_take, Nat.min_eq_left hj]; rfl
                  rw [h2]
                  exact H7.out.1
                case measure => simp [intOf]; omega
              · obtain rfl : j = il.length := by omega
                go_wp2
                go_roundw
                case rel =>
                  have h2 : (As ++ startsOf il id).length = As.length + il.length := by
                    unfold startsOf
                    rw [List.length_append, List.length_map]
                  refine ⟨k + 1, seen ++ [id], aa', ca', As ++ startsOf il id, by omega, by go_num, by rw [h2], by rw [h2]; omega, by rw [List.length_append]; simp; omega, Lib.hid ⟨Fa', ?_, ?_⟩⟩
                  · have := HJ3.out
                    rwa [List.take_length] at this
                  · rw [← HRE.out, HDR.out, startsL, HC.out, List.append_assoc]; simp
                case measure => simp [intOf]; omega
        · obtain rfl : k = ready.length := by omega
          have he := HRE.out
          rw [List.drop_length, startsL, List.append_nil] at he
          have HEQ := Lib.hid he
          clear he
          have hlen : (actsL st chs.length false ready).length = As.length + Es.length := by rw [HFB.out, ← HEQ.out, List.length_append]
          have HLEN := Lib.hid hlen
          clear hlen
          go_wp2_with (first
            | (at_builtin; refine wpList_app_sl rfl (.tmp 85) (.tmp 86) 29 rfl 35 i0 _ 3 24 Try.underlying29 hi hz0 hz1 hz2 rfl (by decide) Fa aa As.length ca (actsV As) rfl HJ1.out.a HJ1.out.la ae Es.length ce (actsV Es) rfl HJ1.out.e.rd (As.length + Es.length) (actsV (As ++ Es)) rfl (actsV_append As Es).symm (by unfold maxLen; omega) (by omega) ?_; intro a8 c8 w8 F8 hsl8 hfr8 hgr8 hli8; have H8 := Lib.hid (And.intro hsl8 (And.intro hfr8 (And.intro hgr8 hli8))); clear hsl8 hfr8 hgr8 hli8))
          rw [← HLEN.out]
          go_ret
          have hJ := J.growA HJ1.out HB.out (As' := As ++ Es) (by rw [List.length_append]; exact H8.out.1) H8.out.2.1 H8.out.2.2.1 H8.out.2.2.2
          refine ⟨a8, c8, rfl, ?_, hJ.brd, hJ.fr⟩
          rw [HLEN.out, HFB.out, ← HEQ.out]
          exact H8.out.1.rd

theorem acts_any (b : Bool) (g sb : Nat) (chs : List Nat) (st : List (Option Int)) (ar : Option Addr) (cr : Nat) (ready : List Int) (hn : ready.length ≤ 1000) (w : World) (h : Brd w g sb chs st) (hr : Rd w 1 ar ready.length cr (intsV ready)) (hws : WfO st) (hwr : WfI ready) :
    Calls Try.prog 11 #[.pointer (some ⟨g, 0, none⟩), .bool b, .slice ar ready.length cr] w fun e w' => ∃ a c, e = .returned (.slice a (actsL st chs.length b ready).length c) ∧ Rd w' 3 a (actsL st chs.length b ready).length c (actsV (actsL st chs.length b ready)) ∧ Brd w' g sb chs st ∧ Fr (bF chs) w w' := by
  cases b
  · exact acts_false g sb chs st ar cr ready hn w h hr hws hwr
  · exact acts_true g sb chs st ar cr ready hn w h hr hws hwr
end Go.Proofs.Ytpfcghigfkhimaa
