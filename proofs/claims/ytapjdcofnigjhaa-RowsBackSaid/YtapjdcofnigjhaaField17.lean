/- The laws of package field: FieldOne. -/
import Derived.Test.YtapjdcofnigjhaaField16
import Derived.Deep.Cut
import Derived.Deep.RegionHeld3
namespace Go.Proofs.Ytapjdcofnigjhaa
open Go.RowKit
/-- A writer (gw, ws) and a reader (g, B, at_), both made since w0, apart. -/
def WR (w0 w : World) (gw : Nat) (ws : List UInt8) (g : Nat) (a : Option Addr) (c : Nat) (B : List UInt8) (at_ : Nat) : Prop :=
  ∃ a' c' G, Wr w gw G a' c' ws ∧ Rdr w g a c B at_ ∧ (∀ o, ¬ wf gw G g o) ∧ (B ≠ [] → ∀ x, a = some x → ∀ o, ¬ wf gw G x.block o) ∧ w0.heap.size ≤ gw ∧ (∀ b o, G b o → w0.heap.size ≤ b) ∧ w0.heap.size ≤ g ∧ Below w0.heap.size w0 w
section
variable {w0 w w' : World} {gw g : Nat} {ws ws' B : List UInt8} {a : Option Addr} {c at_ at2 : Nat}
theorem WR.low (h : WR w0 w gw ws g a c B at_) : Below w0.heap.size w0 w := by
  obtain ⟨a', c', G, h1, h2, h3, h4, h5, h6, h7, h8⟩ := h
  exact h8
theorem WR.rdr (h : WR w0 w gw ws g a c B at_) : Rdr w g a c B at_ := by
  obtain ⟨a', c', G, h1, h2, h3, h4, h5, h6, h7, h8⟩ := h
  exact h2
theorem WR.new (h : WR w0 w gw ws g a c B at_) : WNew w0 w gw ws := by
  obtain ⟨a', c', G, h1, h2, h3, h4, h5, h6, h7, h8⟩ := h
  exact ⟨a', c', G, h1, h5, h6, h8⟩
theorem WR.later (h : WR w0 w gw ws g a c B at_) (hb : Below w.heap.size w w') : WR w0 w' gw ws g a c B at_ := by
  obtain ⟨a', c', G, h1, h2, h3, h4, h5, h6, h7, h8⟩ := h
  exact ⟨a', c', G, h1.later hb, h2.later hb, h3, h4, h5, h6, h7, h8.trans (hb.mono h8.size)⟩
theorem WR.read (h : WR w0 w gw ws g a c B at_) (hr : Rdr w' g a c B at2) (hf : Fr (atF g) w w') : WR w0 w' gw ws g a c B at2 := by
  obtain ⟨a', c', G, h1, h2, h3, h4, h5, h6, h7, h8⟩ := h
  exact ⟨a', c', G, h1.fr hf (fun b o hb e => h3 o (e.1 ▸ hb)), hr, h3, h4, h5, h6, h7, h8.trans (hf.below h8.size (fun b o e => e.1 ▸ h7))⟩
theorem WR.write {a' : Option Addr} {c' : Nat} {G : Foot} (h1 : Wr w gw G a' c' ws) (h2 : Rdr w g a c B at_) (h3 : ∀ o, ¬ wf gw G g o) (h4 : B ≠ [] → ∀ x, a = some x → ∀ o, ¬ wf gw G x.block o) (h5 : w0.heap.size ≤ gw) (h6 : ∀ b o, G b o → w0.heap.size ≤ b) (h7 : w0.heap.size ≤ g) (h8 : Below w0.heap.size w0 w)
    (h : Writes w gw G ws' w') : WR w0 w' gw ws' g a c B at_ := by
  obtain ⟨a2, c2, G2, k1, k2, k3⟩ := h
  have hg : g < w.heap.size := block_of_cell h2.i
  refine ⟨a2, c2, G2, k1, h2.fr k2 h3 h4, fun o hw => ?_, fun hne x hx o hw => ?_, h5, fun b o hb => ?_, h7, Wr.low h5 h6 k2 h8⟩
  · rcases hw with e | hw
    · exact h3 o (.inl e)
    · rcases k3 g o hw with h | h
      · exact h3 o (.inr h)
      · omega
  · rcases hw with e | hw
    · exact h4 hne x hx o (.inl e)
    · rcases k3 x.block o hw with h | h
      · exact h4 hne x hx o (.inr h)
      · have := Rd.lt h2.rd x hx (bytesV_ne hne); omega
  · rcases k3 b o hb with h | h
    · exact h6 b o h
    · have := h8.size; omega
theorem WR.start (h2 : Rdr w g a c B at_) (h7 : w0.heap.size ≤ g) (h8 : Below w0.heap.size w0 w) (t : TypeId) : WR w0 (w.alloc (.cells #[.slice none 0 0] t)) w.heap.size [] g a c B at_ := by
  have hg : g < w.heap.size := block_of_cell h2.i
  refine ⟨none, 0, noCells, Wr.made w t, h2.later (al1' w _), fun o hw => ?_, fun hne x hx o hw => ?_, h8.size, fun _ _ h => h.elim, h7, h8.trans ((al1' w _).mono h8.size)⟩
  · rcases hw with e | hw
    · omega
    · exact hw
  · rcases hw with e | hw
    · have := Rd.lt h2.rd x hx (bytesV_ne hne); omega
    · exact hw
end
section
variable (w0 : World) (gw : Nat) (ws : List UInt8) (g : Nat) (a : Option Addr) (c : Nat) (B : List UInt8) (at_ : Nat)
theorem wrUint (n : Nat) (hn : n < 9223372036854775808) (hb : ws.length ≤ 1000000) (w : World) (h : WR w0 w gw ws g a c B at_) :
    Calls Try.prog 24 #[.pointer (some ⟨gw, 0, none⟩), .int .i64 n] w fun e w' => e = .returned (.int .i64 0) ∧ WR w0 w' gw (ws ++ Fd.grp n) g a c B at_ := by
  obtain ⟨a', c', G, h1, h2, h3, h4, h5, h6, h7, h8⟩ := h
  exact (wUint_any gw G a' c' ws n hn hb w h1).mono fun e w' ⟨e1, e2⟩ => ⟨e1, WR.write h1 h2 h3 h4 h5 h6 h7 h8 e2⟩
theorem wrInt (v : Int) (hv : Fd.In v) (hb : ws.length ≤ 1000000) (w : World) (h : WR w0 w gw ws g a c B at_) :
    Calls Try.prog 27 #[.pointer (some ⟨gw, 0, none⟩), .int .i64 v] w fun e w' => e = .returned (.int .i64 0) ∧ WR w0 w' gw (ws ++ Fd.grp (Fd.zig v)) g a c B at_ := by
  obtain ⟨a', c', G, h1, h2, h3, h4, h5, h6, h7, h8⟩ := h
  exact (wInt_any gw G a' c' ws v hv hb w h1).mono fun e w' ⟨e1, e2⟩ => ⟨e1, WR.write h1 h2 h3 h4 h5 h6 h7 h8 e2⟩
theorem wrText (s : List UInt8) (hs : s.length ≤ 65536) (hb : ws.length ≤ 1000000) (w : World) (h : WR w0 w gw ws g a c B at_) :
    Calls Try.prog 29 #[.pointer (some ⟨gw, 0, none⟩), .string ⟨s.toArray⟩] w fun e w' => e = .returned (.int .i64 0) ∧ WR w0 w' gw (ws ++ (Fd.grp s.length ++ s)) g a c B at_ := by
  obtain ⟨a', c', G, h1, h2, h3, h4, h5, h6, h7, h8⟩ := h
  exact (wText_any gw G a' c' ws s hs hb w h1).mono fun e w' ⟨e1, e2⟩ => ⟨e1, WR.write h1 h2 h3 h4 h5 h6 h7 h8 e2⟩
theorem left_B (hl : B.length ≤ 1000000) (w : World) (h : Rdr w g a c B at_) :
    Calls Try.prog 36 #[.pointer (some ⟨g, 0, none⟩)] w fun e w' => e = .returned (.int .i64 ((B.length : Int) - (at_ : Int))) ∧ Below w.heap.size w w' :=
  (left_any g a c B at_ w h hl).mono fun e w' ⟨e1, n, e2⟩ => ⟨e1, e2 ▸ drewN_below w n⟩
end
/-- What is read of a row of bytes, as one number of the kind: the number, what is wrong, how far; and what of it is written. -/
theorem one_uint {B : List UInt8} {m k : Nat} (hp : Fd.parse 0 B = some (m, k)) : Fd.grp m = B.take k ∧ 1 ≤ k ∧ k ≤ B.length := by
  obtain ⟨_, h1, h2, h3, _⟩ := Fd.parse_at hp
  exact ⟨h1, h2, h3⟩
set_option maxRecDepth 100000 in
set_option maxHeartbeats 4000000 in
theorem fieldOne_walk (a1 : Option Addr) (c1 : Nat) (B : List UInt8) (kd : Int) (w : World) (h1 : RdB w a1 c1 B) :
    Calls Try.prog 10 #[.slice a1 B.length c1, .int .i64 kd] w (FYes w) := by
  by_cases hB : 100 < B.length
  · have hB' : (100 : Int) < (B.length : Int) := by omega
    have hBm : (B.length : Int) ≤ 9223372036854775807 := by have := h1.le; unfold maxLen at this; omega
    clear h1 hB
    go_enter Try.func10, Try.ntmps10
    go_wp2_with (go_at_call 23; refine (awake02 _).mono ?_; rintro e w4 ⟨rfl, hb⟩; have H4 := Lib.hid hb; clear hb)
    go_ret
    exact ⟨rfl, H4.out⟩
  have hB' : (B.length : Int) ≤ 100 := by omega
  have hbl : B.length ≤ 1000000 := by omega
  have HD := Lib.hid h1
  have hcap := h1.le
  clear h1 hB
  obtain ⟨P, hP⟩ : ∃ P, Fd.parse 0 B = P := ⟨_, rfl⟩
  have HP := Lib.hid hP
  clear hP
  -- what ends each way: the writer's bytes are the first K ones of B
  by_cases hk0 : kd = 0
  · subst hk0
    cases P with
    | none =>
      have HRD : Hid (∀ (g : Nat) (a : Option Addr) (c : Nat) (W : World), Rdr W g a c B 0 → Calls Try.prog 33 #[.pointer (some ⟨g, 0, none⟩)] W (OuterR W g a c B (.int .i64 0) (11) (0))) := Lib.hid (fun g a c W h => rUint_any g a c B 0 hbl W h none HP.out)
      have HEQ : Hid (([] : List UInt8) = B.take (0)) := Lib.hid (rfl)
      go_enter Try.func10, Try.ntmps10
      go_upto_region 23 with (first
        | (go_at_call 31; refine (read_any a1 c1 B hbl _ HD.out).mono ?_; rintro e w1 ⟨g, a3, c3, rfl, hr, hb, hg⟩; have H1 := Lib.hid (WR.start hr hg hb 51); clear hr hb hg)
        | (go_at_call 33; refine (HRD.out g a3 c3 _ H1.out.rdr).mono ?_; rintro e w2 ⟨rfl, hr, hf⟩; have H2 := Lib.hid (H1.out.read hr hf); clear hr hf))
      obtain ⟨LL, hLL⟩ : ∃ LL : Int, (B.length : Int) - (((0) : Nat) : Int) = LL := ⟨_, rfl⟩
      have HLB := Lib.hid (fun W h => left_B g a3 c3 B (0) hbl W h)
      rw [hLL] at HLB
      have l0 : (0 : Int) ≤ LL := by omega
      have l1 : LL ≤ (B.length : Int) := by omega
      have l2 : ¬ LL < (B.length : Int) := by omega
      have hsb : IntKind.i64.wrap ((B.length : Int) - LL) = (((0) : Nat) : Int) := by rw [IntKind.wrap_i64]; omega
      have hsl := to_ex (P := Try.prog) 25 Try.underlying25 1 Try.sizeOf5 a1 B.length c1 .i64 (0) (by omega)
      have hk1 : (((0) : Nat) : Int) ≤ (B.length : Int) := by omega
      have HLL := Lib.hid hLL
      clear hLL
      go_upto_region 26 with (go_at_call 36; refine (HLB.out _ H2.out.rdr).mono ?_; rintro e w4 ⟨rfl, hb⟩; have H4 := Lib.hid (H2.out.later hb); clear hb)
      have H5 := Lib.hid (And.intro H4.out.low (And.intro H4.out.new (HD.out.later H4.out.low)))
      go_region_held3 (fun W => Below w.heap.size w W) (first | exact H5.out.1.drew | exact H8.out | exact H7.out.1 | exact H6.out.1 | exact H5.out.1)
        (first
          | (go_at_call 30; refine (nBytes w w1.heap.size ([]) (by first | omega | (simp; done)) _ (H5.out.2.1.later (Below.refl _ _).drew)).mono ?_; rintro e w6 ⟨a6, c6, rfl, hr, hb⟩; have H6 := Lib.hid (And.intro (H5.out.1.drew.trans (hb.mono H5.out.1.size)) (And.intro hr (H5.out.2.2.later ((Below.refl _ _).drew.trans hb)))); clear hr hb)
          | (go_at_call 15; refine (bytes_N _ _ ([]) _ _ (B.take (0)) (0) (by rw [List.length_take]; omega) _ H6.out.2.1 (RdB.to H6.out.2.2 (0) (by omega))).mono ?_; rintro e w7 ⟨rfl, hb⟩; rw [decide_eq_true HEQ.out]; have H7 := Lib.hid (And.intro (H6.out.1.trans (hb.mono H6.out.1.size)) trivial); clear hb)
          | (go_at_call 23; refine (awake02 _).mono ?_; rintro e w8 ⟨rfl, hb⟩; have H8 := Lib.hid (H7.out.1.trans (hb.mono H7.out.1.size)); clear hb))
      all_goals
        go_wp2
        go_ret
        exact ⟨rfl, H8.out⟩
    | some q =>
      obtain ⟨m, k⟩ := q
      have hone := one_uint HP.out
      have hat := Fd.parse_at HP.out
      have hmm : m < 18446744073709551616 := hat.1
      have HMM := Lib.hid hmm
      have HO := Lib.hid hone
      have hk1' : 1 ≤ k := hone.2.1
      have hk2' : k ≤ B.length := hone.2.2
      have hgl := Fd.grp_ten hmm
      clear hone hat
      by_cases hm : m < 9223372036854775808
      · have HM := Lib.hid hm
        have HRD : Hid (∀ (g : Nat) (a : Option Addr) (c : Nat) (W : World), Rdr W g a c B 0 → Calls Try.prog 33 #[.pointer (some ⟨g, 0, none⟩)] W (OuterR W g a c B (.int .i64 (m : Int)) (0) (k))) := Lib.hid (fun g a c W h => by
            have h2 := rUint_any g a c B 0 hbl W h _ HP.out
            have e1 : uV (some (m, k)) = m := if_pos HM.out
            have e2 : uE (some (m, k)) = 0 := if_pos HM.out
            rw [e1, e2] at h2
            have e3 : oN 0 (0 + adv (some (m, k))) 0 = k := Nat.zero_add k
            rw [e3] at h2
            exact h2)
        have HEQ : Hid ((Fd.grp m : List UInt8) = B.take (k)) := Lib.hid (HO.out.1)
        have HWR : Hid (∀ (gw g : Nat) (a : Option Addr) (c : Nat) (W : World), WR w W gw [] g a c B (k) → Calls Try.prog 24 #[.pointer (some ⟨gw, 0, none⟩), .int .i64 (m : Int)] W fun e w' => e = .returned (.int .i64 0) ∧ WR w w' gw (Fd.grp m) g a c B (k)) := Lib.hid (fun gw g a c W h => wrUint w gw [] g a c B k m HM.out (by decide) W h)
        go_enter Try.func10, Try.ntmps10
        go_upto_region 23 with (first
          | (go_at_call 31; refine (read_any a1 c1 B hbl _ HD.out).mono ?_; rintro e w1 ⟨g, a3, c3, rfl, hr, hb, hg⟩; have H1 := Lib.hid (WR.start hr hg hb 51); clear hr hb hg)
          | (go_at_call 33; refine (HRD.out g a3 c3 _ H1.out.rdr).mono ?_; rintro e w2 ⟨rfl, hr, hf⟩; have H2 := Lib.hid (H1.out.read hr hf); clear hr hf)
          | (go_at_call 24; refine (HWR.out _ g a3 c3 _ H2.out).mono ?_; rintro e w3 ⟨rfl, h⟩; have H3 := Lib.hid h; clear h))
        obtain ⟨LL, hLL⟩ : ∃ LL : Int, (B.length : Int) - (((k) : Nat) : Int) = LL := ⟨_, rfl⟩
        have HLB := Lib.hid (fun W h => left_B g a3 c3 B (k) hbl W h)
        rw [hLL] at HLB
        have l0 : (0 : Int) ≤ LL := by omega
        have l1 : LL ≤ (B.length : Int) := by omega
        have l2 : LL < (B.length : Int) := by omega
        have hsb : IntKind.i64.wrap ((B.length : Int) - LL) = (((k) : Nat) : Int) := by rw [IntKind.wrap_i64]; omega
        have hsl := to_ex (P := Try.prog) 25 Try.underlying25 1 Try.sizeOf5 a1 B.length c1 .i64 (k) (by omega)
        have hk1 : (((k) : Nat) : Int) ≤ (B.length : Int) := by omega
        have HLL := Lib.hid hLL
        clear hLL
        go_upto_region 26 with (go_at_call 36; refine (HLB.out _ H3.out.rdr).mono ?_; rintro e w4 ⟨rfl, hb⟩; have H4 := Lib.hid (H3.out.later hb); clear hb)
        have H5 := Lib.hid (And.intro H4.out.low (And.intro H4.out.new (HD.out.later H4.out.low)))
        go_region_held3 (fun W => Below w.heap.size w W) (first | exact H5.out.1.drew | exact H8.out | exact H7.out.1 | exact H6.out.1 | exact H5.out.1)
          (first
            | (go_at_call 30; refine (nBytes w w1.heap.size (Fd.grp m) (by first | omega | (simp; done)) _ (H5.out.2.1.later (Below.refl _ _).drew)).mono ?_; rintro e w6 ⟨a6, c6, rfl, hr, hb⟩; have H6 := Lib.hid (And.intro (H5.out.1.drew.trans (hb.mono H5.out.1.size)) (And.intro hr (H5.out.2.2.later ((Below.refl _ _).drew.trans hb)))); clear hr hb)
            | (go_at_call 15; refine (bytes_N _ _ (Fd.grp m) _ _ (B.take (k)) (k) (by rw [List.length_take]; omega) _ H6.out.2.1 (RdB.to H6.out.2.2 (k) (by omega))).mono ?_; rintro e w7 ⟨rfl, hb⟩; rw [decide_eq_true HEQ.out]; have H7 := Lib.hid (And.intro (H6.out.1.trans (hb.mono H6.out.1.size)) trivial); clear hb)
            | (go_at_call 23; refine (awake02 _).mono ?_; rintro e w8 ⟨rfl, hb⟩; have H8 := Lib.hid (H7.out.1.trans (hb.mono H7.out.1.size)); clear hb))
        all_goals
          go_wp2
          go_ret
          exact ⟨rfl, H8.out⟩
      · have HM := Lib.hid hm
        clear hm hmm
        have HRD : Hid (∀ (g : Nat) (a : Option Addr) (c : Nat) (W : World), Rdr W g a c B 0 → Calls Try.prog 33 #[.pointer (some ⟨g, 0, none⟩)] W (OuterR W g a c B (.int .i64 0) (10) (0))) := Lib.hid (fun g a c W h => by
            have h2 := rUint_any g a c B 0 hbl W h _ HP.out
            have e1 : uV (some (m, k)) = 0 := if_neg HM.out
            have e2 : uE (some (m, k)) = 10 := if_neg HM.out
            rw [e1, e2] at h2
            exact h2)
        have HEQ : Hid (([] : List UInt8) = B.take (0)) := Lib.hid (rfl)
        go_enter Try.func10, Try.ntmps10
        go_upto_region 23 with (first
          | (go_at_call 31; refine (read_any a1 c1 B hbl _ HD.out).mono ?_; rintro e w1 ⟨g, a3, c3, rfl, hr, hb, hg⟩; have H1 := Lib.hid (WR.start hr hg hb 51); clear hr hb hg)
          | (go_at_call 33; refine (HRD.out g a3 c3 _ H1.out.rdr).mono ?_; rintro e w2 ⟨rfl, hr, hf⟩; have H2 := Lib.hid (H1.out.read hr hf); clear hr hf))
        obtain ⟨LL, hLL⟩ : ∃ LL : Int, (B.length : Int) - (((0) : Nat) : Int) = LL := ⟨_, rfl⟩
        have HLB := Lib.hid (fun W h => left_B g a3 c3 B (0) hbl W h)
        rw [hLL] at HLB
        have l0 : (0 : Int) ≤ LL := by omega
        have l1 : LL ≤ (B.length : Int) := by omega
        have l2 : ¬ LL < (B.length : Int) := by omega
        have hsb : IntKind.i64.wrap ((B.length : Int) - LL) = (((0) : Nat) : Int) := by rw [IntKind.wrap_i64]; omega
        have hsl := to_ex (P := Try.prog) 25 Try.underlying25 1 Try.sizeOf5 a1 B.length c1 .i64 (0) (by omega)
        have hk1 : (((0) : Nat) : Int) ≤ (B.length : Int) := by omega
        have HLL := Lib.hid hLL
        clear hLL
        go_upto_region 26 with (go_at_call 36; refine (HLB.out _ H2.out.rdr).mono ?_; rintro e w4 ⟨rfl, hb⟩; have H4 := Lib.hid (H2.out.later hb); clear hb)
        have H5 := Lib.hid (And.intro H4.out.low (And.intro H4.out.new (HD.out.later H4.out.low)))
        go_region_held3 (fun W => Below w.heap.size w W) (first | exact H5.out.1.drew | exact H8.out | exact H7.out.1 | exact H6.out.1 | exact H5.out.1)
          (first
            | (go_at_call 30; refine (nBytes w w1.heap.size ([]) (by first | omega | (simp; done)) _ (H5.out.2.1.later (Below.refl _ _).drew)).mono ?_; rintro e w6 ⟨a6, c6, rfl, hr, hb⟩; have H6 := Lib.hid (And.intro (H5.out.1.drew.trans (hb.mono H5.out.1.size)) (And.intro hr (H5.out.2.2.later ((Below.refl _ _).drew.trans hb)))); clear hr hb)
            | (go_at_call 15; refine (bytes_N _ _ ([]) _ _ (B.take (0)) (0) (by rw [List.length_take]; omega) _ H6.out.2.1 (RdB.to H6.out.2.2 (0) (by omega))).mono ?_; rintro e w7 ⟨rfl, hb⟩; rw [decide_eq_true HEQ.out]; have H7 := Lib.hid (And.intro (H6.out.1.trans (hb.mono H6.out.1.size)) trivial); clear hb)
            | (go_at_call 23; refine (awake02 _).mono ?_; rintro e w8 ⟨rfl, hb⟩; have H8 := Lib.hid (H7.out.1.trans (hb.mono H7.out.1.size)); clear hb))
        all_goals
          go_wp2
          go_ret
          exact ⟨rfl, H8.out⟩
  · by_cases hk1 : kd = 1
    · subst hk1
      clear hk0
      cases P with
      | none =>
        have HRD : Hid (∀ (g : Nat) (a : Option Addr) (c : Nat) (W : World), Rdr W g a c B 0 → Calls Try.prog 34 #[.pointer (some ⟨g, 0, none⟩)] W (OuterR W g a c B (.int .i64 0) (11) (0))) := Lib.hid (fun g a c W h => rInt_any g a c B 0 hbl W h none HP.out)
        have HEQ : Hid (([] : List UInt8) = B.take (0)) := Lib.hid (rfl)
        go_enter Try.func10, Try.ntmps10
        go_upto_region 23 with (first
          | (go_at_call 31; refine (read_any a1 c1 B hbl _ HD.out).mono ?_; rintro e w1 ⟨g, a3, c3, rfl, hr, hb, hg⟩; have H1 := Lib.hid (WR.start hr hg hb 51); clear hr hb hg)
          | (go_at_call 34; refine (HRD.out g a3 c3 _ H1.out.rdr).mono ?_; rintro e w2 ⟨rfl, hr, hf⟩; have H2 := Lib.hid (H1.out.read hr hf); clear hr hf))
        obtain ⟨LL, hLL⟩ : ∃ LL : Int, (B.length : Int) - (((0) : Nat) : Int) = LL := ⟨_, rfl⟩
        have HLB := Lib.hid (fun W h => left_B g a3 c3 B (0) hbl W h)
        rw [hLL] at HLB
        have l0 : (0 : Int) ≤ LL := by omega
        have l1 : LL ≤ (B.length : Int) := by omega
        have l2 : ¬ LL < (B.length : Int) := by omega
        have hsb : IntKind.i64.wrap ((B.length : Int) - LL) = (((0) : Nat) : Int) := by rw [IntKind.wrap_i64]; omega
        have hsl := to_ex (P := Try.prog) 25 Try.underlying25 1 Try.sizeOf5 a1 B.length c1 .i64 (0) (by omega)
        have hk1 : (((0) : Nat) : Int) ≤ (B.length : Int) := by omega
        have HLL := Lib.hid hLL
        clear hLL
        go_upto_region 26 with (go_at_call 36; refine (HLB.out _ H2.out.rdr).mono ?_; rintro e w4 ⟨rfl, hb⟩; have H4 := Lib.hid (H2.out.later hb); clear hb)
        have H5 := Lib.hid (And.intro H4.out.low (And.intro H4.out.new (HD.out.later H4.out.low)))
        go_region_held3 (fun W => Below w.heap.size w W) (first | exact H5.out.1.drew | exact H8.out | exact H7.out.1 | exact H6.out.1 | exact H5.out.1)
          (first
            | (go_at_call 30; refine (nBytes w w1.heap.size ([]) (by first | omega | (simp; done)) _ (H5.out.2.1.later (Below.refl _ _).drew)).mono ?_; rintro e w6 ⟨a6, c6, rfl, hr, hb⟩; have H6 := Lib.hid (And.intro (H5.out.1.drew.trans (hb.mono H5.out.1.size)) (And.intro hr (H5.out.2.2.later ((Below.refl _ _).drew.trans hb)))); clear hr hb)
            | (go_at_call 15; refine (bytes_N _ _ ([]) _ _ (B.take (0)) (0) (by rw [List.length_take]; omega) _ H6.out.2.1 (RdB.to H6.out.2.2 (0) (by omega))).mono ?_; rintro e w7 ⟨rfl, hb⟩; rw [decide_eq_true HEQ.out]; have H7 := Lib.hid (And.intro (H6.out.1.trans (hb.mono H6.out.1.size)) trivial); clear hb)
            | (go_at_call 23; refine (awake02 _).mono ?_; rintro e w8 ⟨rfl, hb⟩; have H8 := Lib.hid (H7.out.1.trans (hb.mono H7.out.1.size)); clear hb))
        all_goals
          go_wp2
          go_ret
          exact ⟨rfl, H8.out⟩
      | some q =>
        obtain ⟨m, k⟩ := q
        have hone := one_uint HP.out
        have hat := Fd.parse_at HP.out
        have hmm : m < 18446744073709551616 := hat.1
        have HMM := Lib.hid hmm
        have HO := Lib.hid hone
        have hk1' : 1 ≤ k := hone.2.1
        have hk2' : k ≤ B.length := hone.2.2
        have hgl := Fd.grp_ten hmm
        clear hone hat
        have HRD : Hid (∀ (g : Nat) (a : Option Addr) (c : Nat) (W : World), Rdr W g a c B 0 → Calls Try.prog 34 #[.pointer (some ⟨g, 0, none⟩)] W (OuterR W g a c B (.int .i64 (Fd.zag m)) (0) (k))) := Lib.hid (fun g a c W h => by
            have h2 := rInt_any g a c B 0 hbl W h _ HP.out
            have e3 : oN (iE (some (m, k))) (0 + adv (some (m, k))) 0 = k := Nat.zero_add k
            rw [e3] at h2
            exact h2)
        have HEQ : Hid ((Fd.grp m : List UInt8) = B.take (k)) := Lib.hid (HO.out.1)
        have HWR : Hid (∀ (gw g : Nat) (a : Option Addr) (c : Nat) (W : World), WR w W gw [] g a c B (k) → Calls Try.prog 27 #[.pointer (some ⟨gw, 0, none⟩), .int .i64 (Fd.zag m)] W fun e w' => e = .returned (.int .i64 0) ∧ WR w w' gw (Fd.grp m) g a c B (k)) := Lib.hid (fun gw g a c W h => by
            have h2 := wrInt w gw [] g a c B k (Fd.zag m) (Fd.zag_in HMM.out) (by decide) W h
            rw [Fd.zig_zag] at h2
            exact h2)
        go_enter Try.func10, Try.ntmps10
        go_upto_region 23 with (first
          | (go_at_call 31; refine (read_any a1 c1 B hbl _ HD.out).mono ?_; rintro e w1 ⟨g, a3, c3, rfl, hr, hb, hg⟩; have H1 := Lib.hid (WR.start hr hg hb 51); clear hr hb hg)
          | (go_at_call 34; refine (HRD.out g a3 c3 _ H1.out.rdr).mono ?_; rintro e w2 ⟨rfl, hr, hf⟩; have H2 := Lib.hid (H1.out.read hr hf); clear hr hf)
          | (go_at_call 27; refine (HWR.out _ g a3 c3 _ H2.out).mono ?_; rintro e w3 ⟨rfl, h⟩; have H3 := Lib.hid h; clear h))
        obtain ⟨LL, hLL⟩ : ∃ LL : Int, (B.length : Int) - (((k) : Nat) : Int) = LL := ⟨_, rfl⟩
        have HLB := Lib.hid (fun W h => left_B g a3 c3 B (k) hbl W h)
        rw [hLL] at HLB
        have l0 : (0 : Int) ≤ LL := by omega
        have l1 : LL ≤ (B.length : Int) := by omega
        have l2 : LL < (B.length : Int) := by omega
        have hsb : IntKind.i64.wrap ((B.length : Int) - LL) = (((k) : Nat) : Int) := by rw [IntKind.wrap_i64]; omega
        have hsl := to_ex (P := Try.prog) 25 Try.underlying25 1 Try.sizeOf5 a1 B.length c1 .i64 (k) (by omega)
        have hk1 : (((k) : Nat) : Int) ≤ (B.length : Int) := by omega
        have HLL := Lib.hid hLL
        clear hLL
        go_upto_region 26 with (go_at_call 36; refine (HLB.out _ H3.out.rdr).mono ?_; rintro e w4 ⟨rfl, hb⟩; have H4 := Lib.hid (H3.out.later hb); clear hb)
        have H5 := Lib.hid (And.intro H4.out.low (And.intro H4.out.new (HD.out.later H4.out.low)))
        go_region_held3 (fun W => Below w.heap.size w W) (first | exact H5.out.1.drew | exact H8.out | exact H7.out.1 | exact H6.out.1 | exact H5.out.1)
          (first
            | (go_at_call 30; refine (nBytes w w1.heap.size (Fd.grp m) (by first | omega | (simp; done)) _ (H5.out.2.1.later (Below.refl _ _).drew)).mono ?_; rintro e w6 ⟨a6, c6, rfl, hr, hb⟩; have H6 := Lib.hid (And.intro (H5.out.1.drew.trans (hb.mono H5.out.1.size)) (And.intro hr (H5.out.2.2.later ((Below.refl _ _).drew.trans hb)))); clear hr hb)
            | (go_at_call 15; refine (bytes_N _ _ (Fd.grp m) _ _ (B.take (k)) (k) (by rw [List.length_take]; omega) _ H6.out.2.1 (RdB.to H6.out.2.2 (k) (by omega))).mono ?_; rintro e w7 ⟨rfl, hb⟩; rw [decide_eq_true HEQ.out]; have H7 := Lib.hid (And.intro (H6.out.1.trans (hb.mono H6.out.1.size)) trivial); clear hb)
            | (go_at_call 23; refine (awake02 _).mono ?_; rintro e w8 ⟨rfl, hb⟩; have H8 := Lib.hid (H7.out.1.trans (hb.mono H7.out.1.size)); clear hb))
        all_goals
          go_wp2
          go_ret
          exact ⟨rfl, H8.out⟩
    · by_cases he : tE B.length 0 100 P = 0
      · cases P with
        | none => exact absurd he (show ¬ (11 : Int) = 0 by decide)
        | some q =>
          obtain ⟨m, k⟩ := q
          have hone := one_uint HP.out
          have hat := Fd.parse_at HP.out
          have hmm : m < 18446744073709551616 := hat.1
          have HMM := Lib.hid hmm
          have HO := Lib.hid hone
          have hk1' : 1 ≤ k := hone.2.1
          have hk2' : k ≤ B.length := hone.2.2
          have hgl := Fd.grp_ten hmm
          clear hone hat
          rw [tE_eq] at he
          have hm : m < 9223372036854775808 := by
            by_cases hm : m < 9223372036854775808
            · exact hm
            · rw [if_neg hm] at he; cases he
          rw [if_pos hm] at he
          have hm2 : ¬ (100 : Int) < (m : Int) := fun h => by rw [if_pos h] at he; cases he
          rw [if_neg hm2] at he
          have hm3 : ¬ B.length < 0 + k + m := fun h => by rw [if_pos h] at he; cases he
          have hkm : k + m ≤ B.length := by omega
          obtain ⟨T, hT⟩ : ∃ T, T = (B.drop k).take m := ⟨_, rfl⟩
          have hTl : T.length = m := by rw [hT, List.length_take, List.length_drop]; omega
          have e5 : tE B.length 0 100 (some (m, k)) = 0 := by rw [tE_eq, if_pos hm, if_neg hm2, if_neg hm3]
          have e6 : tV B 0 100 (some (m, k)) = T := by rw [tV_yes e5, hT, Nat.zero_add]
          have e7 : Fd.grp m ++ T = B.take (k + m) := by rw [HO.out.1, hT, List.take_add]
          obtain ⟨KN, hKN⟩ : ∃ KN : Nat, k + m = KN := ⟨_, rfl⟩
          rw [hKN] at e7
          obtain ⟨WV, hWV⟩ : ∃ WV, WV = Fd.grp m ++ T := ⟨_, rfl⟩
          rw [← hWV] at e7
          have HWV := Lib.hid hWV
          have HKN := Lib.hid hKN
          have HT0 := Lib.hid (And.intro e5 (And.intro e6 (And.intro e7 hTl)))
          have hwl : WV.length ≤ 10000000 := by rw [hWV, List.length_append]; omega
          have hk3 : 1 ≤ KN := by omega
          have hk4 : KN ≤ B.length := by omega
          clear hKN hWV he hT hTl e5 e6 e7 hm hm3 hmm
          have HRD : Hid (∀ (g : Nat) (a : Option Addr) (c : Nat) (W : World), Rdr W g a c B 0 → Calls Try.prog 35 #[.pointer (some ⟨g, 0, none⟩), .int .i64 100] W (OuterR W g a c B (.string ⟨T.toArray⟩) (0) (KN))) := Lib.hid (fun g a c W h => by
              have h2 := rText_any g a c B 0 100 hbl W h _ HP.out
              rw [HT0.out.1, HT0.out.2.1] at h2
              have e3 : oN 0 (0 + tA (some (m, k))) 0 = KN := (Nat.zero_add _).trans HKN.out
              rw [e3] at h2
              exact h2)
          have HEQ : Hid ((WV : List UInt8) = B.take (KN)) := Lib.hid (HT0.out.2.2.1)
          have HWR : Hid (∀ (gw g : Nat) (a : Option Addr) (c : Nat) (W : World), WR w W gw [] g a c B (KN) → Calls Try.prog 29 #[.pointer (some ⟨gw, 0, none⟩), .string ⟨T.toArray⟩] W fun e w' => e = .returned (.int .i64 0) ∧ WR w w' gw (WV) g a c B (KN)) := Lib.hid (fun gw g a c W h => by
              have h2 := wrText w gw [] g a c B KN T (by have := HT0.out.2.2.2; omega) (by decide) W h
              rw [HT0.out.2.2.2] at h2
              rw [HWV.out]
              exact h2)
          go_enter Try.func10, Try.ntmps10
          go_upto_region 23 with (first
            | (go_at_call 31; refine (read_any a1 c1 B hbl _ HD.out).mono ?_; rintro e w1 ⟨g, a3, c3, rfl, hr, hb, hg⟩; have H1 := Lib.hid (WR.start hr hg hb 51); clear hr hb hg)
            | (go_at_call 35; refine (HRD.out g a3 c3 _ H1.out.rdr).mono ?_; rintro e w2 ⟨rfl, hr, hf⟩; have H2 := Lib.hid (H1.out.read hr hf); clear hr hf)
            | (go_at_call 29; refine (HWR.out _ g a3 c3 _ H2.out).mono ?_; rintro e w3 ⟨rfl, h⟩; have H3 := Lib.hid h; clear h))
          obtain ⟨LL, hLL⟩ : ∃ LL : Int, (B.length : Int) - (((KN) : Nat) : Int) = LL := ⟨_, rfl⟩
          have HLB := Lib.hid (fun W h => left_B g a3 c3 B (KN) hbl W h)
          rw [hLL] at HLB
          have l0 : (0 : Int) ≤ LL := by omega
          have l1 : LL ≤ (B.length : Int) := by omega
          have l2 : LL < (B.length : Int) := by omega
          have hsb : IntKind.i64.wrap ((B.length : Int) - LL) = (((KN) : Nat) : Int) := by rw [IntKind.wrap_i64]; omega
          have hsl := to_ex (P := Try.prog) 25 Try.underlying25 1 Try.sizeOf5 a1 B.length c1 .i64 (KN) (by omega)
          have hk1 : (((KN) : Nat) : Int) ≤ (B.length : Int) := by omega
          have HLL := Lib.hid hLL
          clear hLL
          go_upto_region 26 with (go_at_call 36; refine (HLB.out _ H3.out.rdr).mono ?_; rintro e w4 ⟨rfl, hb⟩; have H4 := Lib.hid (H3.out.later hb); clear hb)
          have H5 := Lib.hid (And.intro H4.out.low (And.intro H4.out.new (HD.out.later H4.out.low)))
          go_region_held3 (fun W => Below w.heap.size w W) (first | exact H5.out.1.drew | exact H8.out | exact H7.out.1 | exact H6.out.1 | exact H5.out.1)
            (first
              | (go_at_call 30; refine (nBytes w w1.heap.size (WV) (by first | omega | (simp; done)) _ (H5.out.2.1.later (Below.refl _ _).drew)).mono ?_; rintro e w6 ⟨a6, c6, rfl, hr, hb⟩; have H6 := Lib.hid (And.intro (H5.out.1.drew.trans (hb.mono H5.out.1.size)) (And.intro hr (H5.out.2.2.later ((Below.refl _ _).drew.trans hb)))); clear hr hb)
              | (go_at_call 15; refine (bytes_N _ _ (WV) _ _ (B.take (KN)) (KN) (by rw [List.length_take]; omega) _ H6.out.2.1 (RdB.to H6.out.2.2 (KN) (by omega))).mono ?_; rintro e w7 ⟨rfl, hb⟩; rw [decide_eq_true HEQ.out]; have H7 := Lib.hid (And.intro (H6.out.1.trans (hb.mono H6.out.1.size)) trivial); clear hb)
              | (go_at_call 23; refine (awake02 _).mono ?_; rintro e w8 ⟨rfl, hb⟩; have H8 := Lib.hid (H7.out.1.trans (hb.mono H7.out.1.size)); clear hb))
          all_goals
            go_wp2
            go_ret
            exact ⟨rfl, H8.out⟩
      · obtain ⟨err, herr⟩ : ∃ err, tE B.length 0 100 P = err := ⟨_, rfl⟩
        have HERR := Lib.hid herr
        have hnz : err ≠ 0 := by rw [← herr]; exact he
        have HNZ := Lib.hid hnz
        have HTV : Hid (tV B 0 100 P = []) := Lib.hid (by
          cases P with
          | none => rfl
          | some q => exact tV_no he)
        have hnz2 : (err == 0) = false := by simpa using hnz
        have hnz3 : ¬ err = 0 := hnz
        clear he herr hnz
        have HRD : Hid (∀ (g : Nat) (a : Option Addr) (c : Nat) (W : World), Rdr W g a c B 0 → Calls Try.prog 35 #[.pointer (some ⟨g, 0, none⟩), .int .i64 100] W (OuterR W g a c B (.string ⟨([] : List UInt8).toArray⟩) (err) (0))) := Lib.hid (fun g a c W h => by
            have h2 := rText_any g a c B 0 100 hbl W h _ HP.out
            rw [HERR.out, HTV.out] at h2
            have e3 : oN err (0 + tA P) 0 = 0 := if_neg HNZ.out
            rw [e3] at h2
            exact h2)
        have HEQ : Hid (([] : List UInt8) = B.take (0)) := Lib.hid (rfl)
        go_enter Try.func10, Try.ntmps10
        go_upto_region 23 with (first
          | (go_at_call 31; refine (read_any a1 c1 B hbl _ HD.out).mono ?_; rintro e w1 ⟨g, a3, c3, rfl, hr, hb, hg⟩; have H1 := Lib.hid (WR.start hr hg hb 51); clear hr hb hg)
          | (go_at_call 35; refine (HRD.out g a3 c3 _ H1.out.rdr).mono ?_; rintro e w2 ⟨rfl, hr, hf⟩; have H2 := Lib.hid (H1.out.read hr hf); clear hr hf))
        obtain ⟨LL, hLL⟩ : ∃ LL : Int, (B.length : Int) - (((0) : Nat) : Int) = LL := ⟨_, rfl⟩
        have HLB := Lib.hid (fun W h => left_B g a3 c3 B (0) hbl W h)
        rw [hLL] at HLB
        have l0 : (0 : Int) ≤ LL := by omega
        have l1 : LL ≤ (B.length : Int) := by omega
        have l2 : ¬ LL < (B.length : Int) := by omega
        have hsb : IntKind.i64.wrap ((B.length : Int) - LL) = (((0) : Nat) : Int) := by rw [IntKind.wrap_i64]; omega
        have hsl := to_ex (P := Try.prog) 25 Try.underlying25 1 Try.sizeOf5 a1 B.length c1 .i64 (0) (by omega)
        have hk1 : (((0) : Nat) : Int) ≤ (B.length : Int) := by omega
        have HLL := Lib.hid hLL
        clear hLL
        go_upto_region 26 with (go_at_call 36; refine (HLB.out _ H2.out.rdr).mono ?_; rintro e w4 ⟨rfl, hb⟩; have H4 := Lib.hid (H2.out.later hb); clear hb)
        have H5 := Lib.hid (And.intro H4.out.low (And.intro H4.out.new (HD.out.later H4.out.low)))
        go_region_held3 (fun W => Below w.heap.size w W) (first | exact H5.out.1.drew | exact H8.out | exact H7.out.1 | exact H6.out.1 | exact H5.out.1)
          (first
            | (go_at_call 30; refine (nBytes w w1.heap.size ([]) (by first | omega | (simp; done)) _ (H5.out.2.1.later (Below.refl _ _).drew)).mono ?_; rintro e w6 ⟨a6, c6, rfl, hr, hb⟩; have H6 := Lib.hid (And.intro (H5.out.1.drew.trans (hb.mono H5.out.1.size)) (And.intro hr (H5.out.2.2.later ((Below.refl _ _).drew.trans hb)))); clear hr hb)
            | (go_at_call 15; refine (bytes_N _ _ ([]) _ _ (B.take (0)) (0) (by rw [List.length_take]; omega) _ H6.out.2.1 (RdB.to H6.out.2.2 (0) (by omega))).mono ?_; rintro e w7 ⟨rfl, hb⟩; rw [decide_eq_true HEQ.out]; have H7 := Lib.hid (And.intro (H6.out.1.trans (hb.mono H6.out.1.size)) trivial); clear hb)
            | (go_at_call 23; refine (awake02 _).mono ?_; rintro e w8 ⟨rfl, hb⟩; have H8 := Lib.hid (H7.out.1.trans (hb.mono H7.out.1.size)); clear hb))
        all_goals
          go_wp2
          go_ret
          exact ⟨rfl, H8.out⟩
end Go.Proofs.Ytapjdcofnigjhaa
