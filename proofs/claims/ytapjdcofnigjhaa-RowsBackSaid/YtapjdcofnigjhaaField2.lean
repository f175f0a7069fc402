/- Package field: the writer's methods, the document's; slices.Clone; the checker's Bytes. -/
import Derived.Test.YtapjdcofnigjhaaField1
import Derived.Deep.QuietTactic
import Derived.BigQuiet
import Derived.WalkSpells
namespace Go.Proofs.Ytapjdcofnigjhaa
open Go.RowKit

set_option maxRecDepth 100000 in
set_option maxHeartbeats 400000 in
theorem bytes_any (a : Option Addr) (c : Nat) (xs : List UInt8) (b : Option Addr) (d : Nat) (ys : List UInt8) (w : World) (hx : RdB w a c xs) (hy : RdB w b d ys) :
    Calls Try.prog 15 #[.slice a xs.length c, .slice b ys.length d] w fun e w' => e = .returned (.bool (decide (xs = ys))) ∧ ∃ n, w' = w.drewN n := by
  have hle := hx.le
  unfold maxLen at hle
  by_cases hl : ys.length = xs.length
  · rw [hl]
    have Hx := Lib.hid hx.at
    have Hy := Lib.hid hy.at
    have HL := Lib.hid hl
    clear hx hy hl
    go_enter Try.func15, Try.ntmps15
    go_wp2
    go_loopw [5] (fun i wr => ∃ k nd : Nat, k ≤ xs.length ∧ i = .int .i64 k ∧ wr = w.drewN nd ∧ Hid (xs.take k = ys.take k)) (fun i _ => xs.length - (intOf i).toNat)
    case atStart => exact ⟨0, 0, Nat.zero_le _, rfl, rfl, Lib.hid rfl⟩
    case round =>
      obtain ⟨k, nd, hk, rfl, rfl, Heq⟩ := hrel
      by_cases hlt : k < xs.length
      · obtain ⟨x, hx⟩ : ∃ x, xs[k]? = some x := ⟨_, List.getElem?_eq_getElem hlt⟩
        obtain ⟨y, hy⟩ : ∃ y, ys[k]? = some y := ⟨_, List.getElem?_eq_getElem (by rw [HL.out]; exact hlt)⟩
        obtain ⟨b1, o1, rfl, hc1⟩ := Hx.out k x hx
        obtain ⟨b2, o2, rfl, hc2⟩ := Hy.out k y hy
        have Hx' := Lib.hid hx
        have Hy' := Lib.hid hy
        clear hx hy
        by_cases hxy : x = y
        · subst hxy
          have hd : (((x.toNat : Nat) : Int) != ((x.toNat : Nat) : Int)) = false := by simp
          go_wp2
          go_quiet (fail)
          go_wp2
          go_roundw
          case rel => exact ⟨k + 1, _, by omega, by go_num, rfl, Lib.hid (by rw [List.take_add_one, List.take_add_one, Heq.out, Hx'.out, Hy'.out])⟩
          case measure => simp [intOf]; omega
        · have hd : (x.toNat != y.toNat) = true := by
            rw [bne_iff_ne]; intro h; exact hxy (UInt8.toNat_inj.1 h)
          have hne : decide (xs = ys) = false := by
            rw [decide_eq_false_iff_not]; intro h
            have h1 := Hx'.out
            rw [h, Hy'.out] at h1
            exact hxy (Option.some.inj h1).symm
          have Hne := Lib.hid hne
          clear hne
          go_wp2
          go_quiet (fail)
          go_wp2
          go_ret
          exact ⟨by rw [Hne.out]; rfl, nd + nq, by rw [World.drewN_drewN]⟩
      · have hkk : k = xs.length := by omega
        have hall : decide (xs = ys) = true := by
          have h1 := Heq.out
          rw [List.take_of_length_le (by omega), List.take_of_length_le (by rw [HL.out]; omega)] at h1
          exact decide_eq_true h1
        have Hall := Lib.hid hall
        clear hall hkk
        go_wp2
        go_ret
        exact ⟨by rw [Hall.out]; rfl, _, rfl⟩
  · have hne : decide (xs = ys) = false := by
      rw [decide_eq_false_iff_not]; rintro rfl; exact hl rfl
    have hl' : ¬ xs.length = ys.length := fun h => hl h.symm
    rw [hne]
    clear hx hy hne
    go_enter Try.func15, Try.ntmps15
    go_wp2
    go_ret
    exact ⟨rfl, 0, rfl⟩

theorem bytes_B (a : Option Addr) (c : Nat) (xs : List UInt8) (b : Option Addr) (d : Nat) (ys : List UInt8) (w : World) (hx : RdB w a c xs) (hy : RdB w b d ys) :
    Calls Try.prog 15 #[.slice a xs.length c, .slice b ys.length d] w fun e w' => e = .returned (.bool (decide (xs = ys))) ∧ Below w.heap.size w w' := by
  refine (bytes_any a c xs b d ys w hx hy).mono ?_
  rintro e w' ⟨rfl, n, rfl⟩
  exact ⟨rfl, ⟨rfl, rfl, rfl, Nat.le_refl _, fun _ _ => rfl⟩⟩

set_option maxHeartbeats 400000 in
theorem clone_any (a : Option Addr) (c : Nat) (bs : List UInt8) (w : World) (hrd : RdB w a c bs) (hlen : bs.length ≤ 140737488355328) :
    Calls Try.prog 44 #[.slice a bs.length c] w fun e w' => GivesB w bs e w' := by
  have hnil := fun (w : World) (n c n' c' : Nat) => Lib.run_eql_slice_nil (P := Try.prog) w 25 5 a n c n' c' Try.underlying25
  cases a with
  | none =>
    have hb : bs = [] := by
      have h1 := Rd.nil hrd rfl
      have h2 := Rd.le hrd
      exact List.eq_nil_of_length_eq_zero (by omega)
    go_enter Try.func44, Try.ntmps44
    go_wp2
    go_ret
    subst hb
    exact ⟨none, 0, rfl, Rd.nilSlice _ _, Below.refl _ _⟩
  | some x =>
    obtain ⟨i0, hi, hz0, hz1, hz2⟩ := info_parts Try.infoByte
    have hmade := World.ownsRow_made (e := 5) (size := 1) w #[] 0 (Nat.le_refl w.heap.size) (Nat.zero_le _) rfl
    have hlater : RdB (w.alloc (.cells #[] 5)) (some x) c bs := hrd.later ((Below.refl _ _).alloc (Nat.le_refl _) _)
    have H1 := Lib.hid hmade
    have H2 := Lib.hid hlater
    clear hmade hlater
    go_enter Try.func44, Try.ntmps44
    go_wp2_with (at_builtin; refine wpList_app rfl _ _ 25 rfl w.heap.size 5 i0 (.int .u8 0) 1 1 Try.underlying25 hi hz0 hz1 hz2 rfl (by decide) _ 0 0 [] rfl H1.out _ bs.length c (bytesV bs) rfl H2.out (by unfold maxLen; omega) (by omega) (by simp) ?_; intro a' c' w' hown hgrow)
    simp only [Nat.zero_add] at *
    go_ret
    obtain ⟨a2, c2, h2, hrd2, _⟩ := Rd.ofOwn hown (bytesV_one bs)
    cases h2
    refine ⟨_, _, rfl, hrd2, ?_⟩
    exact ((Below.refl _ _).alloc (Nat.le_refl _) _).grown hgrow (by simp) (fun k hk => by cases hk; exact Nat.le_refl _)


set_option maxRecDepth 100000 in
set_option maxHeartbeats 1000000 in
theorem wInt_any (g : Nat) (G : Foot) (a : Option Addr) (c : Nat) (bs : List UInt8) (v : Int) (hv : Fd.In v) (hb : bs.length ≤ 1000000) (w : World) (hw : Wr w g G a c bs) :
    Calls Try.prog 27 #[.pointer (some ⟨g, 0, none⟩), .int .i64 v] w fun e w' => e = .returned (.int .i64 0) ∧ Writes w g G (bs ++ Fd.grp (Fd.zig v)) w' := by
  have hg := groups_any g G a c bs (Fd.zig v) (Fd.zig_lt hv) hb w hw
  have h1 : -9223372036854775808 ≤ v := hv.1
  have h2 : v ≤ 9223372036854775807 := hv.2
  clear hw hv
  by_cases hneg : v < 0
  · have hz : Fd.zig v = (2 * (-1 - v) + 1).toNat := by unfold Fd.zig; rw [if_pos hneg]
    have e2 : ((Fd.zig v : Nat) : Int) = 2 * (-1 - v) + 1 := by omega
    rw [e2] at hg
    have HG := Lib.hid hg
    clear e2 hz hg
    go_enter Try.func27, Try.ntmps27
    go_wp2_with (go_at_call 42; refine HG.out.mono ?_; rintro e w1 ⟨rfl, hw1⟩; have HW := Lib.hid hw1; clear hw1)
    go_ret
    exact ⟨rfl, HW.out⟩
  · have hz : Fd.zig v = (2 * v).toNat := by unfold Fd.zig; rw [if_neg hneg]
    have e2 : ((Fd.zig v : Nat) : Int) = 2 * v := by omega
    rw [e2] at hg
    have HG := Lib.hid hg
    clear e2 hz hg
    go_enter Try.func27, Try.ntmps27
    go_wp2_with (go_at_call 42; refine HG.out.mono ?_; rintro e w1 ⟨rfl, hw1⟩; have HW := Lib.hid hw1; clear hw1)
    go_ret
    exact ⟨rfl, HW.out⟩
set_option maxRecDepth 100000 in
set_option maxHeartbeats 1000000 in
theorem wUint_any (g : Nat) (G : Foot) (a : Option Addr) (c : Nat) (bs : List UInt8) (n : Nat) (hn : n < 9223372036854775808) (hb : bs.length ≤ 1000000) (w : World) (hw : Wr w g G a c bs) :
    Calls Try.prog 24 #[.pointer (some ⟨g, 0, none⟩), .int .i64 n] w fun e w' => e = .returned (.int .i64 0) ∧ Writes w g G (bs ++ Fd.grp n) w' := by
  have HG := Lib.hid (groups_any g G a c bs n (by omega) hb w hw)
  clear hw
  go_enter Try.func24, Try.ntmps24
  go_wp2_with (go_at_call 42; refine HG.out.mono ?_; rintro e w1 ⟨rfl, hw1⟩; have HW := Lib.hid hw1; clear hw1)
  go_ret
  exact ⟨rfl, HW.out⟩
theorem wUint_neg (g : Nat) (v : Int) (hv : v < 0) (w : World) :
    Calls Try.prog 24 #[.pointer (some ⟨g, 0, none⟩), .int .i64 v] w fun e w' => e = .returned (.int .i64 10) ∧ w = w' := by
  go_enter Try.func24, Try.ntmps24
  go_wp2
  go_ret
  exact ⟨rfl, rfl⟩
theorem wBytes_any (g : Nat) (G : Foot) (a : Option Addr) (c : Nat) (bs : List UInt8) (hb : bs.length ≤ 10000000) (w : World) (hw : Wr w g G a c bs) :
    Calls Try.prog 30 #[.pointer (some ⟨g, 0, none⟩)] w fun e w' => GivesB w bs e w' := by
  have HC := Lib.hid (clone_any a c bs w hw.sl.rd (by omega))
  have hc := hw.cell
  clear hw
  go_enter Try.func30, Try.ntmps30
  go_wp2_with (go_at_call 44; refine HC.out.mono ?_; rintro e w1 ⟨a1, c1, rfl, hw1⟩; have HW := Lib.hid hw1; clear hw1)
  go_ret
  exact ⟨_, _, rfl, HW.out⟩

/-- A slice of bytes that this call has made. -/
def LocB (w0 w : World) (a : Option Addr) (c : Nat) (bs : List UInt8) : Prop := ∃ F, Sl w 1 F a bs.length c (bytesV bs) ∧ Lies w F ∧ (∀ b o, F b o → w0.heap.size ≤ b) ∧ Below w0.heap.size w0 w
theorem LocB.rd {w0 w : World} {a : Option Addr} {c : Nat} {bs : List UInt8} (h : LocB w0 w a c bs) : RdB w a c bs := by
  obtain ⟨F, h1, _⟩ := h
  exact h1.rd
theorem LocB.low {w0 w : World} {a : Option Addr} {c : Nat} {bs : List UInt8} (h : LocB w0 w a c bs) : Below w0.heap.size w0 w := by
  obtain ⟨F, _, _, _, h1⟩ := h
  exact h1
theorem LocB.start (w0 w : World) (hb : Below w0.heap.size w0 w) : LocB w0 w none 0 [] := ⟨noCells, Sl.none_ w 1, fun _ _ h => h.elim, fun _ _ h => h.elim, hb⟩
theorem LocB.later {w0 w w' : World} {a : Option Addr} {c : Nat} {bs : List UInt8} (h : LocB w0 w a c bs) (hb : Below w.heap.size w w') : LocB w0 w' a c bs := by
  obtain ⟨F, h1, h2, h3, h4⟩ := h
  exact ⟨F, h1.fr (Fr.ofBelow hb noCells) (fun _ _ _ h => h), h2.later (Fr.ofBelow hb noCells), h3, h4.trans (hb.mono h4.size)⟩
theorem LocB.app {w0 w w2 : World} {F F2 : Foot} {o : Obj} {a2 : Option Addr} {N c2 : Nat} {bs2 : List UInt8} (h3 : ∀ b o, F b o → w0.heap.size ≤ b) (h4 : Below w0.heap.size w0 w)
    (hs : Sl w2 1 F2 a2 N c2 (bytesV bs2)) (hfr : Fr F (w.alloc o) w2) (hgr : Grew (w.alloc o) F F2) (hl : Lies w2 F2) : LocB w0 w2 a2 c2 bs2 ∧ N = bs2.length := by
  have hN := sl_len hs
  subst hN
  refine ⟨⟨F2, hs, hl, fun b i hb => ?_, (h4.alloc h4.size o).trans (hfr.below (by have := h4.size; simp; omega) h3)⟩, rfl⟩
  rcases hgr b i hb with h | h
  · exact h3 b i h
  · have := h4.size; simp at h; omega
theorem LocB.app0 {w0 w w2 : World} {F F2 : Foot} {a2 : Option Addr} {N c2 : Nat} {bs2 : List UInt8} (h3 : ∀ b o, F b o → w0.heap.size ≤ b) (h4 : Below w0.heap.size w0 w)
    (hs : Sl w2 1 F2 a2 N c2 (bytesV bs2)) (hfr : Fr F w w2) (hgr : Grew w F F2) (hl : Lies w2 F2) : LocB w0 w2 a2 c2 bs2 ∧ N = bs2.length := by
  have hN := sl_len hs
  subst hN
  refine ⟨⟨F2, hs, hl, fun b i hb => ?_, h4.trans (hfr.below h4.size h3)⟩, rfl⟩
  rcases hgr b i hb with h | h
  · exact h3 b i h
  · have := h4.size; omega

set_option maxRecDepth 100000 in
set_option maxHeartbeats 1000000 in
theorem refGroups (h o : Nat) (hh : h < 9223372036854775808) (ho : o ≤ 1) (w : World) :
    Calls Try.prog 43 #[.int .i64 h, .int .i64 o] w fun e w' => GivesB w (Fd.grp (2 * h + o)) e w' := by
  obtain ⟨i0, hi, hz0, hz1, hz2⟩ := info_parts Try.infoByte
  have hten := Fd.grp_ten (n := 2 * h + o) (by omega)
  go_enter Try.func43, Try.ntmps43
  go_wp2
  go_loopw [5, 6, 7] (fun v x r wr => ∃ (m : Nat) (a' : Option Addr) (c' : Nat) (bs' : List UInt8), m < 18446744073709551616 ∧ bs'.length ≤ 10 ∧ v = .slice a' bs'.length c' ∧ x = .int .i64 ((m : Int) % 128) ∧ r = .int .i64 ((m : Int) / 128) ∧
    Hid (LocB w wr a' c' bs' ∧ bs' ++ Fd.grp m = Fd.grp (2 * h + o))) (fun _ _ r _ => (intOf r).toNat)
  case atStart => exact ⟨2 * h + o, none, 0, [], by omega, by simp, rfl, by congr 1; omega, by congr 1; omega, Lib.hid ⟨LocB.start w w (Below.refl _ _), rfl⟩⟩
  case round =>
    obtain ⟨m, a', c', bs', hm, hbl, rfl, rfl, rfl, HR⟩ := hrel
    obtain ⟨F, s1, s2, s3, s4⟩ := HR.out.1
    have HF := Lib.hid (And.intro s1 (And.intro s2 (And.intro s3 s4)))
    clear s1 s2 s3 s4
    have hbl9 : bs'.length < 1000000000 := by omega
    by_cases hlt : m < 128
    · have hd : bs' ++ [UInt8.ofNat m] = Fd.grp (2 * h + o) := by rw [← Fd.grp_small hlt]; exact HR.out.2
      have HD := Lib.hid hd
      have hm256 : m < 256 := by omega
      have hmm : (m : Int) % 128 = m := by omega
      have hz : (m : Int) / 128 = 0 := by omega
      rw [hmm, hz]
      clear hd hmm hz
      go_wp2_with (at_builtin; refine wpList_app_byte rfl (.tmp 27) (.tmp 30) 25 rfl 5 i0 Try.underlying25 hi hz0 hz1 hz2 F a' c' bs' rfl HF.out.1 HF.out.2.1 (m : Int) m rfl hm256 rfl hbl9 ?_; intro a2 c2 w2 F2 hsl hfr hgr hli; have HA := Lib.hid (LocB.app HF.out.2.2.1 HF.out.2.2.2 hsl hfr hgr hli); clear hsl hfr hgr hli)
      rw [HA.out.2, HD.out]
      go_ret
      have := HA.out.1
      rw [HD.out] at this
      exact ⟨_, _, rfl, this.rd, this.low⟩
    · have HM : Hid ((m : Int) % 128 + 128 = ((m % 128 + 128 : Nat) : Int)) := Lib.hid (by omega)
      have hm256 : m % 128 + 128 < 256 := by omega
      have hacc : (bs' ++ [UInt8.ofNat (m % 128 + 128)]) ++ Fd.grp (m / 128) = Fd.grp (2 * h + o) := by
        rw [← HR.out.2, Fd.grp_big (n := m) (by omega), List.append_assoc]; rfl
      have hl : (bs' ++ [UInt8.ofNat (m % 128 + 128)]).length ≤ 10 := by
        have h1 := congrArg List.length hacc
        have h2 := Fd.grp_pos (m / 128)
        simp only [List.length_append] at h1 h2 ⊢
        omega
      have HC := Lib.hid hacc
      have hdv : (0 : Int) < (m : Int) / 128 := by omega
      clear hacc
      go_wp2_with (at_builtin; refine wpList_app_byte rfl (.tmp 17) (.tmp 21) 25 rfl 5 i0 Try.underlying25 hi hz0 hz1 hz2 F a' c' bs' rfl HF.out.1 HF.out.2.1 ((m : Int) % 128 + 128) (m % 128 + 128) HM.out hm256 rfl hbl9 ?_; intro a2 c2 w2 F2 hsl hfr hgr hli; have HA := Lib.hid (LocB.app HF.out.2.2.1 HF.out.2.2.2 hsl hfr hgr hli); clear hsl hfr hgr hli)
      go_roundw
      case rel => exact ⟨m / 128, a2, c2, bs' ++ [UInt8.ofNat (m % 128 + 128)], by omega, hl, by rw [HA.out.2], by congr 1, by congr 1, Lib.hid ⟨HA.out.1, HC.out⟩⟩
      case measure => simp [intOf]; omega
end Go.Proofs.Ytapjdcofnigjhaa
