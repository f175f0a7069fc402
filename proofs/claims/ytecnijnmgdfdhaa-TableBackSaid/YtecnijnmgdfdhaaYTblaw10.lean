/- Joined: Tblaw10. -/
import Derived.Test.YtecnijnmgdfdhaaYTblaw9
import Derived.Test.YtecnijnmgdfdhaaYTblaw5
/- The laws of package table: TableBack. -/
namespace Go.Proofs.Ytecnijnmgdfdhaa
namespace Tb
open Go.RowKit Tr
open Ky (less)
section
variable {B : Nat} {w0 w V : World} {X Y : List Rs} {tb r most o : Nat} {L : List Pr}
/-- Find of one value, with room for all. -/
theorem own_find1 (c : Nat) (hc : c < 4) (v : Int) (hv : Ky.In v) (h : Own B w0 (TabR tb most o L :: X) w) :
    Calls Try.prog 14 #[ptrV tb, .int .i64 c, .int .i64 v, .int .i64 v, .int .i64 2000] w fun e V => ∃ (a : Option Addr) (k : Nat) (ks : List Str), e = .returned (.tuple #[.slice a ks.length k, .int .i64 0]) ∧ ks = keysOf (hits c v v L) ∧ ks.length ≤ 1024 ∧ Own B w0 (SlR 1 a ks.length k (textsV ks) :: TabR tb most o L :: X) V := by
  have hl := keys_len (own_tabOk h) (own_tabSorted h) c v v
  have h1 := own_findR c hc v v hv hv (by omega) 2000 h
  rw [List.take_of_length_le (by omega)] at h1
  exact h1.mono (fun e V ⟨a, k, h2, h3⟩ => ⟨a, k, _, h2, rfl, hl, h3⟩)
theorem put_no (k : Str) (q : R4) (h : putE k most L ≠ 0) : putT k q most L = L ∧ getR k L = zr ∧ putB k L = false ∧ (putE k most L = 13 ∨ putE k most L = 16) := by
  refine ⟨by unfold putT; rw [if_neg h], ?_⟩
  unfold putE at h ⊢
  unfold getR putB
  cases hk : Ks.okKey k with
  | false => exact ⟨rfl, rfl, .inl rfl⟩
  | true =>
    rw [hk] at h
    cases hg : get k L with
    | some s => rw [hg] at h; exact absurd rfl h
    | none =>
      rw [hg] at h
      cases hd : decide (most ≤ L.length) with
      | true => exact ⟨rfl, rfl, .inr rfl⟩
      | false => rw [hd] at h; exact absurd rfl h
theorem put_ok {k : Str} (h : putE k most L = 0) : Ks.okKey k = true := by
  unfold putE at h
  cases hk : Ks.okKey k with
  | true => rfl
  | false => rw [hk] at h; cases h
end
set_option maxHeartbeats 16000000 in
set_option maxRecDepth 100000 in
theorem tableBack_walk (m0 : Int) (a : Option Addr) (c : Nat) (l : List OpT) (o : OpT) (w : World) (hr : Rd w 6 a l.length c (opsV l)) (hok : ∀ x ∈ l, OkOp x) (ho : OkOp o) :
    Calls Try.prog 7 #[.int .i64 m0, .slice a l.length c, .agg (opV o).toArray] w (Yes w) := by
  obtain ⟨ask, k, r0, r1, r2, r3⟩ := o
  show Calls _ _ #[.int .i64 m0, .slice a l.length c, .agg #[.int .i64 ask, .string ⟨k.toArray⟩, .int .i64 r0, .int .i64 r1, .int .i64 r2, .int .i64 r3]] w _
  have hcap := hr.cap
  have hle := hr.le
  unfold maxLen at hcap
  have HA := Lib.hid (fun W => awakeT_any W)
  have hb0 := al1 w (.cells #[.int .i64 ask, .string ⟨k.toArray⟩, .int .i64 r0, .int .i64 r1, .int .i64 r2, .int .i64 r3] 52)
  obtain ⟨W, hW⟩ : ∃ W, w.alloc (.cells #[.int .i64 ask, .string ⟨k.toArray⟩, .int .i64 r0, .int .i64 r1, .int .i64 r2, .int .i64 r3] 52) = W := ⟨_, rfl⟩
  have x0 : W.cell? ⟨w.heap.size, 0, none⟩ = some (.int .i64 ask) := by rw [← hW]; simp
  have x1 : W.cell? ⟨w.heap.size, 1, none⟩ = some (.string ⟨k.toArray⟩) := by rw [← hW]; simp
  have x2 : W.cell? ⟨w.heap.size, 2, none⟩ = some (.int .i64 r0) := by rw [← hW]; simp
  have x3 : W.cell? ⟨w.heap.size, 3, none⟩ = some (.int .i64 r1) := by rw [← hW]; simp
  have x4 : W.cell? ⟨w.heap.size, 4, none⟩ = some (.int .i64 r2) := by rw [← hW]; simp
  have x5 : W.cell? ⟨w.heap.size, 5, none⟩ = some (.int .i64 r3) := by rw [← hW]; simp
  rw [hW] at hb0
  have HX : Hid (∀ V, Below W.heap.size W V → V.cell? ⟨w.heap.size, 0, none⟩ = some (.int .i64 ask) ∧ V.cell? ⟨w.heap.size, 1, none⟩ = some (.string ⟨k.toArray⟩) ∧ V.cell? ⟨w.heap.size, 2, none⟩ = some (.int .i64 r0) ∧ V.cell? ⟨w.heap.size, 3, none⟩ = some (.int .i64 r1) ∧ V.cell? ⟨w.heap.size, 4, none⟩ = some (.int .i64 r2) ∧ V.cell? ⟨w.heap.size, 5, none⟩ = some (.int .i64 r3)) := Lib.hid (fun V hb => ⟨old_cell x0 hb, old_cell x1 hb, old_cell x2 hb, old_cell x3 hb, old_cell x4 hb, old_cell x5 hb⟩)
  have HXr : Hid (∀ V, Below W.heap.size W V → ∀ j, j < 4 → V.cell? ⟨w.heap.size, 2 + j, none⟩ = some (.int .i64 (col (r0, r1, r2, r3) j))) := Lib.hid (fun V hb j hj => by
    have : j = 0 ∨ j = 1 ∨ j = 2 ∨ j = 3 := by omega
    rcases this with rfl | rfl | rfl | rfl
    · exact old_cell x2 hb
    · exact old_cell x3 hb
    · exact old_cell x4 hb
    · exact old_cell x5 hb)
  have HEnd : Hid (∀ V, Below W.heap.size W V → Below w.heap.size w V) := Lib.hid (fun V hb => hb0.trans (hb.mono hb0.size))
  have HRt := Lib.hid (fun W => right_any m0 W)
  have HF := Lib.hid (fun V (hb : Below W.heap.size W V) => few_any a c l (by omega) hok V ((hr.later hb0).later hb))
  have HR := Lib.hid (And.intro (hr.later hb0) hok)
  have HIn : Hid (In4 (r0, r1, r2, r3)) := Lib.hid ho.2
  have hkl : k.length ≤ 9223372036854775807 := ho.1
  clear hb0 hr hok ho
  by_cases hm : okMost m0 = true
  case neg =>
    have hm2 : okMost m0 = false := by simpa using hm
    rw [hm2] at HRt
    clear hm hm2
    go_enter Try.func7, Try.ntmps7
    go_wp2_with (first | (go_at_call 10; refine (HRt.out _).mono ?_; rintro e V1 ⟨rfl, rfl⟩) | (go_at_call 12; refine (HA.out _).mono ?_; rintro e V9 ⟨rfl, hb⟩; have H9 := Lib.hid ((Below.refl W.heap.size W).trans (hb.mono (Below.refl W.heap.size W).size)); clear hb))
    go_ret
    exact ⟨rfl, HEnd.out _ H9.out⟩
  rw [hm] at HRt
  have hm3 : 1 ≤ m0 ∧ m0 ≤ 1024 := by unfold okMost at hm; simpa using hm
  obtain ⟨most, rfl⟩ : ∃ n : Nat, m0 = n := ⟨m0.toNat, by omega⟩
  have hmm : 1 ≤ most ∧ most ≤ 1024 := by omega
  clear hm hm3
  by_cases hf : fewT l
  case neg =>
    have hff : decide (fewT l) = false := by simpa using hf
    rw [hff] at HF
    clear hf hff hmm
    go_enter Try.func7, Try.ntmps7
    go_wp2_with (first | (go_at_call 10; refine (HRt.out _).mono ?_; rintro e V1 ⟨rfl, rfl⟩) | (go_at_call 11; refine (HF.out _ (Below.refl _ _)).mono ?_; rintro e V2 ⟨rfl, rfl⟩) | (go_at_call 12; refine (HA.out _).mono ?_; rintro e V9 ⟨rfl, hb⟩; have H9 := Lib.hid ((Below.refl W.heap.size W).trans (hb.mono (Below.refl W.heap.size W).size)); clear hb))
    go_ret
    exact ⟨rfl, HEnd.out _ H9.out⟩
  have hff : decide (fewT l) = true := by simpa using hf
  rw [hff] at HF
  clear hf hff
  by_cases hk : k.length ≤ 100
  case neg =>
    have hk1 : (100 : Int) < (k.length : Int) := by omega
    clear hmm hk
    go_enter Try.func7, Try.ntmps7
    go_wp2_with (first | (go_at_call 10; refine (HRt.out _).mono ?_; rintro e V1 ⟨rfl, rfl⟩) | (go_at_call 11; refine (HF.out _ (Below.refl _ _)).mono ?_; rintro e V2 ⟨rfl, rfl⟩) | (go_at_call 12; refine (HA.out _).mono ?_; rintro e V9 ⟨rfl, hb⟩; have H9 := Lib.hid ((Below.refl W.heap.size W).trans (hb.mono (Below.refl W.heap.size W).size)); clear hb))
    go_ret
    exact ⟨rfl, HEnd.out _ H9.out⟩
  have hk1 : (k.length : Int) ≤ 100 := by omega
  have HM := Lib.hid (own_made most hmm a c l HR.out.1 HR.out.2 (Own.nil W))
  obtain ⟨L, hL⟩ : ∃ L, runT most l = L := ⟨_, rfl⟩
  rw [hL] at HM
  clear hmm hL hk
  have HC := Lib.hid (fun tb X V (h : Own W.heap.size W (TabR tb most 2 L :: X) V) => own_tabCheck h)
  have HS := Lib.hid (fun tb r X V (h : Own W.heap.size W (TabR tb most 2 L :: DocR r most L :: X) V) => own_sameD h)
  by_cases hpe : putE k most L = 0
  case neg =>
    obtain ⟨e1, e2, e3, e4⟩ := put_no k (r0, r1, r2, r3) hpe
    have hq := Rw.eqlRow 0 0 0 0 0 0 0 0 true (by simp)
    rcases e4 with e4 | e4
    · have HP : Hid (∀ tb (X : List Rs) V, Own W.heap.size W (TabR tb most 2 L :: X) V → Calls Try.prog 24 #[ptrV tb, .string ⟨k.toArray⟩, .agg #[.int .i64 r0, .int .i64 r1, .int .i64 r2, .int .i64 r3]] V fun e V2 => e = .returned (.tuple #[.agg #[.int .i64 0, .int .i64 0, .int .i64 0, .int .i64 0], .bool false, .int .i64 13]) ∧ Own W.heap.size W (TabR tb most 2 L :: X) V2) := Lib.hid (fun tb X V h => by
        have := own_tabPut k (r0, r1, r2, r3) HIn.out h
        rwa [e1, e2, e3, e4] at this)
      clear e1 e2 e3 e4 hpe
      go_enter Try.func7, Try.ntmps7
      go_wp2_with (first | (go_at_call 10; refine (HRt.out _).mono ?_; rintro e V1 ⟨rfl, rfl⟩) | (go_at_call 11; refine (HF.out _ (Below.refl _ _)).mono ?_; rintro e V2 ⟨rfl, rfl⟩) | (go_at_call 13; refine HM.out.mono ?_; rintro e V3 ⟨tb, r, rfl, hb3, h3⟩; have H3 := Lib.hid h3; obtain ⟨y0, y1, y2, y3, y4, y5⟩ := HX.out _ h3.low; clear h3 hb3) | (go_at_call 24; refine (HP.out _ _ _ H3.out).mono ?_; rintro e V4 ⟨rfl, h4⟩; have H4 := Lib.hid (own_newRow h4 zr 37).swap; obtain ⟨z0, z1, z2, z3, z4, z5⟩ := HX.out _ H4.out.low; obtain ⟨q0, q1, q2, q3⟩ := own_row H4.out.swap; clear h4) | (go_at_call 20; refine (HS.out _ _ _ _ H4.out.swap.drop).mono ?_; rintro e Va ⟨rfl, hb⟩; have Ha := Lib.hid ((H4.out.swap.drop).later hb); clear hb) | (go_at_call 22; refine (HC.out _ _ _ Ha.out).mono ?_; rintro e Vb ⟨rfl, hb⟩; have Hb := Lib.hid (Ha.out.later hb); clear hb) | (go_at_call 12; refine (HA.out _).mono ?_; rintro e V9 ⟨rfl, hb⟩; have H9 := Lib.hid ((Hb.out.low).trans (hb.mono (Hb.out.low).size)); clear hb))
      go_ret
      exact ⟨rfl, HEnd.out _ H9.out⟩
    · have HP : Hid (∀ tb (X : List Rs) V, Own W.heap.size W (TabR tb most 2 L :: X) V → Calls Try.prog 24 #[ptrV tb, .string ⟨k.toArray⟩, .agg #[.int .i64 r0, .int .i64 r1, .int .i64 r2, .int .i64 r3]] V fun e V2 => e = .returned (.tuple #[.agg #[.int .i64 0, .int .i64 0, .int .i64 0, .int .i64 0], .bool false, .int .i64 16]) ∧ Own W.heap.size W (TabR tb most 2 L :: X) V2) := Lib.hid (fun tb X V h => by
        have := own_tabPut k (r0, r1, r2, r3) HIn.out h
        rwa [e1, e2, e3, e4] at this)
      clear e1 e2 e3 e4 hpe
      go_enter Try.func7, Try.ntmps7
      go_wp2_with (first | (go_at_call 10; refine (HRt.out _).mono ?_; rintro e V1 ⟨rfl, rfl⟩) | (go_at_call 11; refine (HF.out _ (Below.refl _ _)).mono ?_; rintro e V2 ⟨rfl, rfl⟩) | (go_at_call 13; refine HM.out.mono ?_; rintro e V3 ⟨tb, r, rfl, hb3, h3⟩; have H3 := Lib.hid h3; obtain ⟨y0, y1, y2, y3, y4, y5⟩ := HX.out _ h3.low; clear h3 hb3) | (go_at_call 24; refine (HP.out _ _ _ H3.out).mono ?_; rintro e V4 ⟨rfl, h4⟩; have H4 := Lib.hid (own_newRow h4 zr 37).swap; obtain ⟨z0, z1, z2, z3, z4, z5⟩ := HX.out _ H4.out.low; obtain ⟨q0, q1, q2, q3⟩ := own_row H4.out.swap; clear h4) | (go_at_call 20; refine (HS.out _ _ _ _ H4.out.swap.drop).mono ?_; rintro e Va ⟨rfl, hb⟩; have Ha := Lib.hid ((H4.out.swap.drop).later hb); clear hb) | (go_at_call 22; refine (HC.out _ _ _ Ha.out).mono ?_; rintro e Vb ⟨rfl, hb⟩; have Hb := Lib.hid (Ha.out.later hb); clear hb) | (go_at_call 12; refine (HA.out _).mono ?_; rintro e V9 ⟨rfl, hb⟩; have H9 := Lib.hid ((Hb.out.low).trans (hb.mono (Hb.out.low).size)); clear hb))
      go_ret
      exact ⟨rfl, HEnd.out _ H9.out⟩
  have HKey := Lib.hid (put_ok hpe)
  have hpT : putT k (r0, r1, r2, r3) most L = ins (k, encT (r0, r1, r2, r3)) L := by unfold putT; rw [if_pos hpe]
  obtain ⟨⟨g0, g1, g2, g3⟩, hgr⟩ : ∃ g, getR k L = g := ⟨_, rfl⟩
  obtain ⟨pb, hpb⟩ : ∃ pb, putB k L = pb := ⟨_, rfl⟩
  obtain ⟨L1, hL1⟩ : ∃ L1, ins (k, encT (r0, r1, r2, r3)) L = L1 := ⟨_, rfl⟩
  obtain ⟨L2, hL2⟩ : ∃ L2, delT k L1 = L2 := ⟨_, rfl⟩
  rw [hL1] at hpT
  have HP : Hid (∀ tb (X : List Rs) V, Own W.heap.size W (TabR tb most 2 L :: X) V → Calls Try.prog 24 #[ptrV tb, .string ⟨k.toArray⟩, .agg #[.int .i64 r0, .int .i64 r1, .int .i64 r2, .int .i64 r3]] V fun e V2 => e = .returned (.tuple #[.agg #[.int .i64 g0, .int .i64 g1, .int .i64 g2, .int .i64 g3], .bool pb, .int .i64 0]) ∧ Own W.heap.size W (TabR tb most 2 L1 :: X) V2) := Lib.hid (fun tb X V h => by
    have := own_tabPut k (r0, r1, r2, r3) HIn.out h
    rwa [hgr, hpb, hpe, hpT] at this)
  have hat := put_at (L := L) HKey.out HIn.out
  rw [hL1] at hat
  have HG : Hid (∀ tb (X : List Rs) V, Own W.heap.size W (TabR tb most 2 L1 :: X) V → Calls Try.prog 16 #[ptrV tb, .string ⟨k.toArray⟩] V fun e V2 => e = .returned (.tuple #[.agg #[.int .i64 r0, .int .i64 r1, .int .i64 r2, .int .i64 r3], .int .i64 0]) ∧ Below V.heap.size V V2) := Lib.hid (fun tb X V h => by
    have := own_tabGet k h
    rwa [hat.1, hat.2] at this)
  have HD : Hid (∀ tb (X : List Rs) V, Own W.heap.size W (TabR tb most 2 L1 :: X) V → Calls Try.prog 26 #[ptrV tb, .string ⟨k.toArray⟩] V fun e V2 => e = .returned (.tuple #[.agg #[.int .i64 r0, .int .i64 r1, .int .i64 r2, .int .i64 r3], .int .i64 0]) ∧ Own W.heap.size W (TabR tb most 2 L2 :: X) V2) := Lib.hid (fun tb X V h => by
    have := own_tabDel k h
    rwa [hat.1, hat.2, hL2] at this)
  have HIs : Hid (∀ tb (X : List Rs) V, Own W.heap.size W (TabR tb most 2 L1 :: X) V → ∀ c, k ∈ keysOf (hits c (col (r0, r1, r2, r3) c) (col (r0, r1, r2, r3) c) L1)) := Lib.hid (fun tb X V h c => found_in (own_tabOk h).ok (by rw [← hL1]; exact ins_self _ _) HIn.out c)
  have HNo : Hid (∀ tb (X Z : List Rs) V V0, Own W.heap.size W (TabR tb most 2 L :: Z) V0 → Own W.heap.size W (TabR tb most 2 L2 :: X) V → ∀ c, ¬ k ∈ keysOf (hits c (col (r0, r1, r2, r3) c) (col (r0, r1, r2, r3) c) L2)) := Lib.hid (fun tb X Z V V0 h0 h c => by
    have hs1 : Sorted L2 := own_tabSorted h
    refine found_out (own_tabOk h).ok hs1 ?_ c (HIn.out c)
    have h2 : get k L2 = none := by
      rw [← hL2]
      unfold delT
      rw [HKey.out, if_pos rfl, ← hL1]
      cases hg : get k L with
      | none => rw [del_ins_none hg]; exact hg
      | some s => exact get_del ((own_tabSorted h0 : Sorted L).ins _) k
    exact (get_no hs1).1 h2)
  have HB : Hid (∀ tb (X Z : List Rs) V V0, Own W.heap.size W (TabR tb most 2 L :: Z) V0 → Own W.heap.size W (TabR tb most 2 L2 :: X) V → (pb = true → Calls Try.prog 24 #[ptrV tb, .string ⟨k.toArray⟩, .agg #[.int .i64 g0, .int .i64 g1, .int .i64 g2, .int .i64 g3]] V fun e V2 => ∃ v, e = .returned v ∧ Own W.heap.size W (TabR tb most 2 L :: X) V2) ∧ (pb = false → L2 = L)) := Lib.hid (fun tb X Z V V0 h0 h => by
    refine ⟨fun e => ?_, fun e => ?_⟩
    case refine_2 =>
      subst e
      have := put_gone (q := (r0, r1, r2, r3)) HKey.out hpb
      rw [hL1, hL2] at this
      exact this
    case refine_1 =>
      subst e
      have ok := own_tabOk h0
      have hs : Sorted L := own_tabSorted h0
      have h1 := put_back (q := (r0, r1, r2, r3)) ok.ok hs ok.len HKey.out hpb
      rw [hL1, hL2, hgr] at h1
      have hin : In4 (g0, g1, g2, g3) := by
        rw [← hgr]
        unfold putB at hpb
        rw [HKey.out] at hpb
        obtain ⟨s, hg⟩ := Option.isSome_iff_exists.1 (by simpa using hpb)
        rw [show getR k L = decT s by unfold getR; rw [HKey.out, hg]; rfl]
        exact (ok.ok.got hg hs).1
      have h2 := own_tabPut k (g0, g1, g2, g3) hin h
      rw [h1] at h2
      exact h2.mono (fun e V2 ⟨e1, e2⟩ => ⟨_, e1, e2⟩))
  have hq := Rw.eqlRow r0 r1 r2 r3 r0 r1 r2 r3 true (by simp)
  have hq2 := Rw.neqRow r0 r1 r2 r3 r0 r1 r2 r3 true (by simp)
  clear hpe hpT hgr hpb hL1 hL2 hat
  go_enter Try.func7, Try.ntmps7
  go_wp2_with (first
    | (go_at_call 10; refine (HRt.out _).mono ?_; rintro e V1 ⟨rfl, rfl⟩)
    | (go_at_call 11; refine (HF.out _ (Below.refl _ _)).mono ?_; rintro e V2 ⟨rfl, rfl⟩)
    | (go_at_call 13; refine HM.out.mono ?_; rintro e V3 ⟨tb, r, rfl, hb3, h3⟩; have H3 := Lib.hid h3; obtain ⟨y0, y1, y2, y3, y4, y5⟩ := HX.out _ h3.low; clear h3 hb3)
    | (go_at_call 24; refine (HP.out _ _ _ H3.out).mono ?_; rintro e V4 ⟨rfl, h4⟩; have H4 := Lib.hid (own_newRow h4 (g0, g1, g2, g3) 37).swap; obtain ⟨z0, z1, z2, z3, z4, z5⟩ := HX.out _ H4.out.low; obtain ⟨q0, q1, q2, q3⟩ := own_row H4.out.swap; clear h4)
    | (go_at_call 16; refine (HG.out _ _ _ H4.out).mono ?_; rintro e V5 ⟨rfl, hb⟩; have H5 := Lib.hid (own_newRow (H4.out.later hb) (r0, r1, r2, r3) 37); obtain ⟨u0, u1, u2, u3, u4, u5⟩ := HX.out _ H5.out.low; obtain ⟨p0, p1, p2, p3⟩ := own_row H5.out; clear hb))
  clear p0 p1 p2 p3 q0 q1 q2 q3 u0 u1 u2 u3 u4 u5 z0 z1 z2 z3 z4 z5 y0 y1 y2 y3 y4 y5 x0 x1 x2 x3 x4 x5
  obtain ⟨P9, hP9⟩ : ∃ P, V4.heap.size = P := ⟨_, rfl⟩
  have H5b := Lib.hid H5.out.drop
  rw [hP9] at H5b ⊢
  clear hP9
  go_loopw [14] (fun i wr => ∃ (j : Nat), j ≤ 4 ∧ i = .int .i64 j ∧ Hid (Own W.heap.size W [TabR tb most 2 L1, CellsR P9 (r4V (g0, g1, g2, g3)), DocR r most L] wr)) (fun i _ => 4 - (intOf i).toNat)
  case atStart => exact ⟨0, by omega, rfl, H5b⟩
  case round =>
    obtain ⟨j, hj, rfl, HJ⟩ := hrel
    have k2 : (0 : Int) ≤ (j : Int) := by omega
    by_cases hlt : j < 4
    · have k3 : (j : Int) < 4 := by omega
      have his := HIs.out _ _ _ HJ.out j
      have hz := HXr.out _ HJ.out.low j hlt
      obtain ⟨v, hv⟩ : ∃ v, col (r0, r1, r2, r3) j = v := ⟨_, rfl⟩
      rw [hv] at his hz
      have hfj := own_find1 j hlt v (by rw [← hv]; exact HIn.out j) (HJ.out.later (below_drewN wr 1))
      have HXr : Hid (∀ V, Below W.heap.size W V → ∀ j', j' < 4 → V.cell? ⟨w.heap.size, 2 + j, none⟩ = some (.int .i64 v)) := Lib.hid (fun V hb _ _ => by rw [← hv]; exact HXr.out V hb j hlt)
      have HFj := Lib.hid hfj
      have HIj := Lib.hid his
      clear hfj his hv
      go_wp2
      refine wp_region_held_drew (S := (fun V => V.cell? ⟨w.heap.size, 2 + j, none⟩ = some (.int .i64 v))) (by kernel_rfl) hz (fun hH0 => ?_)
      refine wpAnyH_take (i := 0) (v := ?v0) rfl (by kernel_rfl) (by kernel_rfl) (by kernel_rfl) (fun _ _ _ h => h) (Or.inl ⟨by rfl, ?hy0⟩) hH0 ?rest0
      case hy0 => (intro Wx hSw; (try dsimp only at hSw); go_simp; all_goals (with_reducible rfl))
      try simp only [List.getElem_toArray, List.getElem_cons_succ, List.getElem_cons_zero, Act.put, List.setIfInBounds_toArray, List.set_cons_zero, List.set_cons_succ]
      refine wpAnyH_take (i := 1) (v := ?v1) rfl (by kernel_rfl) (by kernel_rfl) (by kernel_rfl) (fun _ _ _ h => h) (Or.inl ⟨by rfl, ?hy1⟩) hH0 ?rest1
      case hy1 => (intro Wx hSw; (try dsimp only at hSw); go_simp; all_goals (with_reducible rfl))
      try simp only [List.getElem_toArray, List.getElem_cons_succ, List.getElem_cons_zero, Act.put, List.setIfInBounds_toArray, List.set_cons_zero, List.set_cons_succ]
      refine wpAnyH_take (i := 2) (v := ?v2) rfl (by kernel_rfl) (by kernel_rfl) (by kernel_rfl) (fun _ _ _ h => h) (Or.inl ⟨by rfl, ?hy2⟩) hH0 ?rest2
      case hy2 => (intro Wx hSw; (try dsimp only at hSw); go_simp; all_goals (with_reducible rfl))
      try simp only [List.getElem_toArray, List.getElem_cons_succ, List.getElem_cons_zero, Act.put, List.setIfInBounds_toArray, List.set_cons_zero, List.set_cons_succ]
      refine wpAnyH_take (i := 3) (v := ?v3) rfl (by kernel_rfl) (by kernel_rfl) (by kernel_rfl) (fun _ _ _ h => h) (Or.inl ⟨by rfl, ?hy3⟩) hH0 ?rest3
      case hy3 => (intro Wx hSw; (try dsimp only at hSw); go_simp; all_goals (with_reducible rfl))
      try simp only [List.getElem_toArray, List.getElem_cons_succ, List.getElem_cons_zero, Act.put, List.setIfInBounds_toArray, List.set_cons_zero, List.set_cons_succ]
      refine wpAnyH_take (i := 4) (v := ?v4) rfl (by kernel_rfl) (by kernel_rfl) (by kernel_rfl) (fun _ _ _ h => h) (Or.inl ⟨by rfl, ?hy4⟩) hH0 ?rest4
      case hy4 => (intro Wx hSw; (try dsimp only at hSw); go_simp; all_goals (with_reducible rfl))
      try simp only [List.getElem_toArray, List.getElem_cons_succ, List.getElem_cons_zero, Act.put, List.setIfInBounds_toArray, List.set_cons_zero, List.set_cons_succ]
      refine wpAnyH_take (i := 5) (v := ?v5) rfl (by kernel_rfl) (by kernel_rfl) (by kernel_rfl) (fun _ _ _ h => h) (Or.inl ⟨by rfl, ?hy5⟩) hH0 ?rest5
      case hy5 => (intro Wx hSw; (try dsimp only at hSw); go_simp; all_goals (with_reducible rfl))
      try simp only [List.getElem_toArray, List.getElem_cons_succ, List.getElem_cons_zero, Act.put, List.setIfInBounds_toArray, List.set_cons_zero, List.set_cons_succ]
      refine wpAnyH_take (i := 6) (v := ?v6) rfl (by kernel_rfl) (by kernel_rfl) (by kernel_rfl) (fun _ _ _ h => h) (Or.inl ⟨by rfl, ?hy6⟩) hH0 ?rest6
      case hy6 => (intro Wx hSw; (try dsimp only at hSw); go_simp; all_goals (with_reducible rfl))
      try simp only [List.getElem_toArray, List.getElem_cons_succ, List.getElem_cons_zero, Act.put, List.setIfInBounds_toArray, List.set_cons_zero, List.set_cons_succ]
      refine wpAnyH_take (i := 7) (v := ?v7) rfl (by kernel_rfl) (by kernel_rfl) (by kernel_rfl) (fun _ _ _ h => h) (Or.inl ⟨by rfl, ?hy7⟩) hH0 ?rest7
      case hy7 => (intro Wx hSw; (try dsimp only at hSw); go_simp; all_goals (with_reducible rfl))
      try simp only [List.getElem_toArray, List.getElem_cons_succ, List.getElem_cons_zero, Act.put, List.setIfInBounds_toArray, List.set_cons_zero, List.set_cons_succ]
      refine wpAnyH_take (i := 8) (v := ?v8) rfl (by kernel_rfl) (by kernel_rfl) (by kernel_rfl) (fun _ _ _ h => h) (Or.inl ⟨by rfl, ?hy8⟩) hH0 ?rest8
      case hy8 => (intro Wx hSw; (try dsimp only at hSw); go_simp; all_goals (with_reducible rfl))
      try simp only [List.getElem_toArray, List.getElem_cons_succ, List.getElem_cons_zero, Act.put, List.setIfInBounds_toArray, List.set_cons_zero, List.set_cons_succ]
      refine wpAnyH_take (i := 9) (v := ?v9) rfl (by kernel_rfl) (by kernel_rfl) (by kernel_rfl) (fun _ _ _ h => h) (Or.inl ⟨by rfl, ?hy9⟩) hH0 ?rest9
      case hy9 => (intro Wx hSw; (try dsimp only at hSw); go_simp; all_goals (with_reducible rfl))
      try simp only [List.getElem_toArray, List.getElem_cons_succ, List.getElem_cons_zero, Act.put, List.setIfInBounds_toArray, List.set_cons_zero, List.set_cons_succ]
      refine wpAnyH_ready (rs := [10]) (by kernel_rfl) (by simp) ?_
      refine AllReadyH.cons rfl (fun K hK => ?_) AllReadyH.nil
      simp only [List.getElem_toArray, List.getElem_cons_succ, List.getElem_cons_zero]
      go_simp
      (go_at_call 14; refine HFj.out.mono ?_; rintro e V6 ⟨fa, fk, ks, rfl, hks, hkl, h6⟩; have H6 := Lib.hid h6; have HI := Lib.hid (in_any fa fk ks k V6 (by omega) (own_rd h6)); have e1 : decide (k ∈ ks) = true := decide_eq_true (by rw [hks]; exact HIj.out); rw [e1] at HI; clear e1; obtain ⟨z0, z1, z2, z3, z4, z5⟩ := HX.out _ h6.low; clear h6 hkl hks)
      refine hK.out _ _ (HXr.out _ H6.out.low j hlt) (fun hH1 => ?_)
      clear hK K hH0
      try simp only [List.getElem_toArray, List.getElem_cons_succ, List.getElem_cons_zero, Act.put, List.setIfInBounds_toArray, List.set_cons_zero, List.set_cons_succ]
      refine wpAnyH_take (i := 11) (v := ?v11) rfl (by kernel_rfl) (by kernel_rfl) (by kernel_rfl) (fun _ _ _ h => h) (Or.inl ⟨by rfl, ?hy11⟩) hH1 ?rest11
      case hy11 => (intro Wx hSw; (try dsimp only at hSw); go_simp; all_goals (with_reducible rfl))
      try simp only [List.getElem_toArray, List.getElem_cons_succ, List.getElem_cons_zero, Act.put, List.setIfInBounds_toArray, List.set_cons_zero, List.set_cons_succ]
      refine wpAnyH_take (i := 12) (v := ?v12) rfl (by kernel_rfl) (by kernel_rfl) (by kernel_rfl) (fun _ _ _ h => h) (Or.inl ⟨by rfl, ?hy12⟩) hH1 ?rest12
      case hy12 => (intro Wx hSw; (try dsimp only at hSw); go_simp; all_goals (with_reducible rfl))
      try simp only [List.getElem_toArray, List.getElem_cons_succ, List.getElem_cons_zero, Act.put, List.setIfInBounds_toArray, List.set_cons_zero, List.set_cons_succ]
      refine wpAnyH_take (i := 13) (v := ?v13) rfl (by kernel_rfl) (by kernel_rfl) (by kernel_rfl) (fun _ _ _ h => h) (Or.inl ⟨by rfl, ?hy13⟩) hH1 ?rest13
      case hy13 => (intro Wx hSw; (try dsimp only at hSw); go_simp; all_goals (with_reducible rfl))
      try simp only [List.getElem_toArray, List.getElem_cons_succ, List.getElem_cons_zero, Act.put, List.setIfInBounds_toArray, List.set_cons_zero, List.set_cons_succ]
      refine wpAnyH_take (i := 14) (v := ?v14) rfl (by kernel_rfl) (by kernel_rfl) (by kernel_rfl) (fun _ _ _ h => h) (Or.inl ⟨by rfl, ?hy14⟩) hH1 ?rest14
      case hy14 => (intro Wx hSw; (try dsimp only at hSw); go_simp; all_goals (with_reducible rfl))
      try simp only [List.getElem_toArray, List.getElem_cons_succ, List.getElem_cons_zero, Act.put, List.setIfInBounds_toArray, List.set_cons_zero, List.set_cons_succ]
      refine wpAnyH_take (i := 15) (v := ?v15) rfl (by kernel_rfl) (by kernel_rfl) (by kernel_rfl) (fun _ _ _ h => h) (Or.inl ⟨by rfl, ?hy15⟩) hH1 ?rest15
      case hy15 => (intro Wx hSw; (try dsimp only at hSw); go_simp; all_goals (with_reducible rfl))
      try simp only [List.getElem_toArray, List.getElem_cons_succ, List.getElem_cons_zero, Act.put, List.setIfInBounds_toArray, List.set_cons_zero, List.set_cons_succ]
      refine wpAnyH_done (by kernel_rfl) ?_ _
      go_wp2_with (go_at_call 25; refine HI.out.mono ?_; rintro e V7 ⟨rfl, rfl⟩)
      go_roundw
      case rel => exact ⟨j + 1, by omega, by go_num, Lib.hid H6.out.drop⟩
      case measure => simp [intOf]; omega
    · obtain rfl : j = 4 := by omega
      have k3 : ¬ ((4 : Nat) : Int) < 4 := by omega
      obtain ⟨z0, z1, z2, z3, z4, z5⟩ := HX.out _ HJ.out.low
      go_wp2_with (go_at_call 26; refine (HD.out _ _ _ HJ.out).mono ?_; rintro e V7 ⟨rfl, h7⟩; have H7 := Lib.hid (own_newRow h7 (r0, r1, r2, r3) 37).swap; clear h7)
      obtain ⟨P17, hP17⟩ : ∃ P, V7.heap.size = P := ⟨_, rfl⟩
      rw [hP17] at H7 ⊢
      clear hP17 z0 z1 z2 z3 z4 z5
      go_loopw [19] (fun i wr => ∃ (j : Nat), j ≤ 4 ∧ i = .int .i64 j ∧ Hid (Own W.heap.size W [TabR tb most 2 L2, CellsR P17 (r4V (r0, r1, r2, r3)), CellsR P9 (r4V (g0, g1, g2, g3)), DocR r most L] wr)) (fun i _ => 4 - (intOf i).toNat)
      case atStart => exact ⟨0, by omega, rfl, H7⟩
      case round =>
        obtain ⟨j, hj, rfl, HJ2⟩ := hrel
        have k2 : (0 : Int) ≤ (j : Int) := by omega
        by_cases hlt : j < 4
        · have k3 : (j : Int) < 4 := by omega
          have his := HNo.out _ _ _ _ _ H3.out HJ2.out j
          have hz := HXr.out _ HJ2.out.low j hlt
          obtain ⟨v, hv⟩ : ∃ v, col (r0, r1, r2, r3) j = v := ⟨_, rfl⟩
          rw [hv] at his hz
          have hfj := own_find1 j hlt v (by rw [← hv]; exact HIn.out j) (HJ2.out.later (below_drewN wr 1))
          have HXr : Hid (∀ V, Below W.heap.size W V → ∀ j', j' < 4 → V.cell? ⟨w.heap.size, 2 + j, none⟩ = some (.int .i64 v)) := Lib.hid (fun V hb _ _ => by rw [← hv]; exact HXr.out V hb j hlt)
          have HFj := Lib.hid hfj
          have HIj := Lib.hid his
          clear hfj his hv
          go_wp2
          refine wp_region_held_drew (S := (fun V => V.cell? ⟨w.heap.size, 2 + j, none⟩ = some (.int .i64 v))) (by kernel_rfl) hz (fun hH0b => ?_)
          refine wpAnyH_take (i := 0) (v := ?vb0) rfl (by kernel_rfl) (by kernel_rfl) (by kernel_rfl) (fun _ _ _ h => h) (Or.inl ⟨by rfl, ?hyb0⟩) hH0b ?restb0
          case hyb0 => (intro Wx hSw; (try dsimp only at hSw); go_simp; all_goals (with_reducible rfl))
          try simp only [List.getElem_toArray, List.getElem_cons_succ, List.getElem_cons_zero, Act.put, List.setIfInBounds_toArray, List.set_cons_zero, List.set_cons_succ]
          refine wpAnyH_take (i := 1) (v := ?vb1) rfl (by kernel_rfl) (by kernel_rfl) (by kernel_rfl) (fun _ _ _ h => h) (Or.inl ⟨by rfl, ?hyb1⟩) hH0b ?restb1
          case hyb1 => (intro Wx hSw; (try dsimp only at hSw); go_simp; all_goals (with_reducible rfl))
          try simp only [List.getElem_toArray, List.getElem_cons_succ, List.getElem_cons_zero, Act.put, List.setIfInBounds_toArray, List.set_cons_zero, List.set_cons_succ]
          refine wpAnyH_take (i := 2) (v := ?vb2) rfl (by kernel_rfl) (by kernel_rfl) (by kernel_rfl) (fun _ _ _ h => h) (Or.inl ⟨by rfl, ?hyb2⟩) hH0b ?restb2
          case hyb2 => (intro Wx hSw; (try dsimp only at hSw); go_simp; all_goals (with_reducible rfl))
          try simp only [List.getElem_toArray, List.getElem_cons_succ, List.getElem_cons_zero, Act.put, List.setIfInBounds_toArray, List.set_cons_zero, List.set_cons_succ]
          refine wpAnyH_take (i := 3) (v := ?vb3) rfl (by kernel_rfl) (by kernel_rfl) (by kernel_rfl) (fun _ _ _ h => h) (Or.inl ⟨by rfl, ?hyb3⟩) hH0b ?restb3
          case hyb3 => (intro Wx hSw; (try dsimp only at hSw); go_simp; all_goals (with_reducible rfl))
          try simp only [List.getElem_toArray, List.getElem_cons_succ, List.getElem_cons_zero, Act.put, List.setIfInBounds_toArray, List.set_cons_zero, List.set_cons_succ]
          refine wpAnyH_take (i := 4) (v := ?vb4) rfl (by kernel_rfl) (by kernel_rfl) (by kernel_rfl) (fun _ _ _ h => h) (Or.inl ⟨by rfl, ?hyb4⟩) hH0b ?restb4
          case hyb4 => (intro Wx hSw; (try dsimp only at hSw); go_simp; all_goals (with_reducible rfl))
          try simp only [List.getElem_toArray, List.getElem_cons_succ, List.getElem_cons_zero, Act.put, List.setIfInBounds_toArray, List.set_cons_zero, List.set_cons_succ]
          refine wpAnyH_take (i := 5) (v := ?vb5) rfl (by kernel_rfl) (by kernel_rfl) (by kernel_rfl) (fun _ _ _ h => h) (Or.inl ⟨by rfl, ?hyb5⟩) hH0b ?restb5
          case hyb5 => (intro Wx hSw; (try dsimp only at hSw); go_simp; all_goals (with_reducible rfl))
          try simp only [List.getElem_toArray, List.getElem_cons_succ, List.getElem_cons_zero, Act.put, List.setIfInBounds_toArray, List.set_cons_zero, List.set_cons_succ]
          refine wpAnyH_take (i := 6) (v := ?vb6) rfl (by kernel_rfl) (by kernel_rfl) (by kernel_rfl) (fun _ _ _ h => h) (Or.inl ⟨by rfl, ?hyb6⟩) hH0b ?restb6
          case hyb6 => (intro Wx hSw; (try dsimp only at hSw); go_simp; all_goals (with_reducible rfl))
          try simp only [List.getElem_toArray, List.getElem_cons_succ, List.getElem_cons_zero, Act.put, List.setIfInBounds_toArray, List.set_cons_zero, List.set_cons_succ]
          refine wpAnyH_take (i := 7) (v := ?vb7) rfl (by kernel_rfl) (by kernel_rfl) (by kernel_rfl) (fun _ _ _ h => h) (Or.inl ⟨by rfl, ?hyb7⟩) hH0b ?restb7
          case hyb7 => (intro Wx hSw; (try dsimp only at hSw); go_simp; all_goals (with_reducible rfl))
          try simp only [List.getElem_toArray, List.getElem_cons_succ, List.getElem_cons_zero, Act.put, List.setIfInBounds_toArray, List.set_cons_zero, List.set_cons_succ]
          refine wpAnyH_take (i := 8) (v := ?vb8) rfl (by kernel_rfl) (by kernel_rfl) (by kernel_rfl) (fun _ _ _ h => h) (Or.inl ⟨by rfl, ?hyb8⟩) hH0b ?restb8
          case hyb8 => (intro Wx hSw; (try dsimp only at hSw); go_simp; all_goals (with_reducible rfl))
          try simp only [List.getElem_toArray, List.getElem_cons_succ, List.getElem_cons_zero, Act.put, List.setIfInBounds_toArray, List.set_cons_zero, List.set_cons_succ]
          refine wpAnyH_take (i := 9) (v := ?vb9) rfl (by kernel_rfl) (by kernel_rfl) (by kernel_rfl) (fun _ _ _ h => h) (Or.inl ⟨by rfl, ?hyb9⟩) hH0b ?restb9
          case hyb9 => (intro Wx hSw; (try dsimp only at hSw); go_simp; all_goals (with_reducible rfl))
          try simp only [List.getElem_toArray, List.getElem_cons_succ, List.getElem_cons_zero, Act.put, List.setIfInBounds_toArray, List.set_cons_zero, List.set_cons_succ]
          refine wpAnyH_ready (rs := [10]) (by kernel_rfl) (by simp) ?_
          refine AllReadyH.cons rfl (fun K hK => ?_) AllReadyH.nil
          simp only [List.getElem_toArray, List.getElem_cons_succ, List.getElem_cons_zero]
          go_simp
          (go_at_call 14; refine HFj.out.mono ?_; rintro e V6 ⟨fa, fk, ks, rfl, hks, hkl, h6⟩; have H6 := Lib.hid h6; have HI := Lib.hid (in_any fa fk ks k V6 (by omega) (own_rd h6)); have e1 : decide (k ∈ ks) = false := decide_eq_false (by rw [hks]; exact HIj.out); rw [e1] at HI; clear e1; obtain ⟨z0, z1, z2, z3, z4, z5⟩ := HX.out _ h6.low; clear h6 hkl hks)
          refine hK.out _ _ (HXr.out _ H6.out.low j hlt) (fun hH1b => ?_)
          clear hK K hH0b
          try simp only [List.getElem_toArray, List.getElem_cons_succ, List.getElem_cons_zero, Act.put, List.setIfInBounds_toArray, List.set_cons_zero, List.set_cons_succ]
          refine wpAnyH_take (i := 11) (v := ?vb11) rfl (by kernel_rfl) (by kernel_rfl) (by kernel_rfl) (fun _ _ _ h => h) (Or.inl ⟨by rfl, ?hyb11⟩) hH1b ?restb11
          case hyb11 => (intro Wx hSw; (try dsimp only at hSw); go_simp; all_goals (with_reducible rfl))
          try simp only [List.getElem_toArray, List.getElem_cons_succ, List.getElem_cons_zero, Act.put, List.setIfInBounds_toArray, List.set_cons_zero, List.set_cons_succ]
          refine wpAnyH_take (i := 12) (v := ?vb12) rfl (by kernel_rfl) (by kernel_rfl) (by kernel_rfl) (fun _ _ _ h => h) (Or.inl ⟨by rfl, ?hyb12⟩) hH1b ?restb12
          case hyb12 => (intro Wx hSw; (try dsimp only at hSw); go_simp; all_goals (with_reducible rfl))
          try simp only [List.getElem_toArray, List.getElem_cons_succ, List.getElem_cons_zero, Act.put, List.setIfInBounds_toArray, List.set_cons_zero, List.set_cons_succ]
          refine wpAnyH_take (i := 13) (v := ?vb13) rfl (by kernel_rfl) (by kernel_rfl) (by kernel_rfl) (fun _ _ _ h => h) (Or.inl ⟨by rfl, ?hyb13⟩) hH1b ?restb13
          case hyb13 => (intro Wx hSw; (try dsimp only at hSw); go_simp; all_goals (with_reducible rfl))
          try simp only [List.getElem_toArray, List.getElem_cons_succ, List.getElem_cons_zero, Act.put, List.setIfInBounds_toArray, List.set_cons_zero, List.set_cons_succ]
          refine wpAnyH_take (i := 14) (v := ?vb14) rfl (by kernel_rfl) (by kernel_rfl) (by kernel_rfl) (fun _ _ _ h => h) (Or.inl ⟨by rfl, ?hyb14⟩) hH1b ?restb14
          case hyb14 => (intro Wx hSw; (try dsimp only at hSw); go_simp; all_goals (with_reducible rfl))
          try simp only [List.getElem_toArray, List.getElem_cons_succ, List.getElem_cons_zero, Act.put, List.setIfInBounds_toArray, List.set_cons_zero, List.set_cons_succ]
          refine wpAnyH_take (i := 15) (v := ?vb15) rfl (by kernel_rfl) (by kernel_rfl) (by kernel_rfl) (fun _ _ _ h => h) (Or.inl ⟨by rfl, ?hyb15⟩) hH1b ?restb15
          case hyb15 => (intro Wx hSw; (try dsimp only at hSw); go_simp; all_goals (with_reducible rfl))
          try simp only [List.getElem_toArray, List.getElem_cons_succ, List.getElem_cons_zero, Act.put, List.setIfInBounds_toArray, List.set_cons_zero, List.set_cons_succ]
          refine wpAnyH_done (by kernel_rfl) ?_ _
          go_wp2_with (go_at_call 25; refine HI.out.mono ?_; rintro e V7 ⟨rfl, rfl⟩)
          go_roundw
          case rel => exact ⟨j + 1, by omega, by go_num, Lib.hid H6.out.drop⟩
          case measure => simp [intOf]; omega
        · obtain rfl : j = 4 := by omega
          have k3 : ¬ ((4 : Nat) : Int) < 4 := by omega
          obtain ⟨z0, z1, z2, z3, z4, z5⟩ := HX.out _ HJ2.out.low
          have hback := HB.out _ _ _ _ _ H3.out HJ2.out
          cases pb with
          | false =>
            obtain rfl : L2 = L := hback.2 rfl
            have HE := HJ2
            obtain ⟨p0, p1, p2, p3⟩ := own_row HE.out.swap
            go_wp2_with (first | (go_at_call 20; refine (HS.out _ _ _ _ HE.out.swap.drop.swap.drop).mono ?_; rintro e Va ⟨rfl, hb⟩; have Ha := Lib.hid ((HE.out.swap.drop.swap.drop).later hb); clear hb) | (go_at_call 22; refine (HC.out _ _ _ Ha.out).mono ?_; rintro e Vb ⟨rfl, hb⟩; have Hb := Lib.hid (Ha.out.later hb); clear hb) | (go_at_call 12; refine (HA.out _).mono ?_; rintro e V9 ⟨rfl, hb⟩; have H9 := Lib.hid ((Hb.out.low).trans (hb.mono (Hb.out.low).size)); clear hb))
            go_ret
            exact ⟨rfl, HEnd.out _ H9.out⟩
          | true =>
            have HBk : Hid (Calls Try.prog 24 #[ptrV tb, .string ⟨k.toArray⟩, .agg #[.int .i64 g0, .int .i64 g1, .int .i64 g2, .int .i64 g3]] wr fun e V2 => ∃ v, e = .returned v ∧ Own W.heap.size W (TabR tb most 2 L :: CellsR P17 (r4V (r0, r1, r2, r3)) :: CellsR P9 (r4V (g0, g1, g2, g3)) :: [DocR r most L]) V2) := Lib.hid (hback.1 rfl)
            clear hback
            obtain ⟨q0, q1, q2, q3⟩ := own_rowM (p := P9) (r := (g0, g1, g2, g3)) HJ2.out (by simp)
            go_wp2_with (first | (go_at_call 24; refine HBk.out.mono ?_; rintro e V8 ⟨v8, rfl, h8⟩; have HE := Lib.hid h8; obtain ⟨u0, u1, u2, u3, u4, u5⟩ := HX.out _ h8.low; obtain ⟨p0, p1, p2, p3⟩ := own_row h8.swap; clear h8) | (go_at_call 20; refine (HS.out _ _ _ _ HE.out.swap.drop.swap.drop).mono ?_; rintro e Va ⟨rfl, hb⟩; have Ha := Lib.hid ((HE.out.swap.drop.swap.drop).later hb); clear hb) | (go_at_call 22; refine (HC.out _ _ _ Ha.out).mono ?_; rintro e Vb ⟨rfl, hb⟩; have Hb := Lib.hid (Ha.out.later hb); clear hb) | (go_at_call 12; refine (HA.out _).mono ?_; rintro e V9 ⟨rfl, hb⟩; have H9 := Lib.hid ((Hb.out.low).trans (hb.mono (Hb.out.low).size)); clear hb))
            go_ret
            exact ⟨rfl, HEnd.out _ H9.out⟩
end Tb
end Go.Proofs.Ytecnijnmgdfdhaa
