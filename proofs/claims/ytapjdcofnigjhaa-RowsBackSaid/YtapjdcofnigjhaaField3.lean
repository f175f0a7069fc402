/- Package field: the reader's groups. -/
import Derived.Test.YtapjdcofnigjhaaField2
import Derived.Test.YtapjdcofnigjhaaFd2
import Derived.Deep.QuietTactic
import Derived.BigQuiet
import Derived.WalkMore
namespace Go.Proofs.Ytapjdcofnigjhaa
open Go.RowKit

/-- A reader in block g: its bytes, where it is. -/
structure Rdr (w : World) (g : Nat) (a : Option Addr) (c : Nat) (bs : List UInt8) (at_ : Nat) : Prop where
  b : w.cell? ⟨g, 0, none⟩ = some (.slice a bs.length c)
  i : w.cell? ⟨g, 1, none⟩ = some (.int .i64 (at_ : Int))
  fz : w.frozen? ⟨g, 1, none⟩ = false
  rd : RdB w a c bs
  ne : bs ≠ [] → ∀ x, a = some x → x.block ≠ g
  le : at_ ≤ bs.length
theorem Rd.frb {S : Foot} {w w' : World} {size : Nat} {a : Option Addr} {n c : Nat} {vs : List Value} (h : Rd w size a n c vs) (hf : Fr S w w') (hs : vs ≠ [] → ∀ x, a = some x → ∀ o, ¬ S x.block o) : Rd w' size a n c vs := by
  refine ⟨h.len, h.le, h.cap, h.nil, fun x hx i u hu => ?_, h.one⟩
  have hc := h.cell x hx i u hu
  have hne : vs ≠ [] := by rintro rfl; simp at hu
  have hn := hs hne x hx
  have hbk := addr_add_block x i
  have hsp := World.cell?_spot hc
  generalize x.add i = y at hc hsp hbk ⊢
  obtain ⟨b, o, s⟩ := y
  have : s = none := hsp
  subst this
  have hbk : b = x.block := hbk
  subst hbk
  exact cell_fr hf hc (hn _)
/-- The cell of a reader that says where it is. -/
def atF (g : Nat) : Foot := fun k o => k = g ∧ o = 1
section
variable {S : Foot} {w w' : World} {g : Nat} {a : Option Addr} {c : Nat} {bs : List UInt8} {at_ : Nat}
theorem Rdr.fr (h : Rdr w g a c bs at_) (hf : Fr S w w') (h0 : ∀ o, ¬ S g o) (h1 : bs ≠ [] → ∀ x, a = some x → ∀ o, ¬ S x.block o) : Rdr w' g a c bs at_ :=
  ⟨cell_fr hf h.b (h0 _), cell_fr hf h.i (h0 _), (hf.froz _ _ (block_of_cell h.i) (h0 _)).trans h.fz, Rd.frb h.rd hf (fun hne => h1 (by rintro rfl; exact hne rfl)), h.ne, h.le⟩
theorem Rdr.later (h : Rdr w g a c bs at_) (hb : Below w.heap.size w w') : Rdr w' g a c bs at_ := h.fr (Fr.ofBelow hb noCells) (fun _ h => h) (fun _ _ _ _ h => h)
theorem Rdr.put (h : Rdr w g a c bs at_) {n : Nat} (z : Int) (hz : z = (n : Int)) (hn : n ≤ bs.length) : Rdr (w.setCell ⟨g, 1, none⟩ (.int .i64 z)) g a c bs n ∧ Fr (atF g) w (w.setCell ⟨g, 1, none⟩ (.int .i64 z)) := by
  subst hz
  have hf : Fr (atF g) w (w.setCell ⟨g, 1, none⟩ (.int .i64 (n : Int))) := (Fr.refl _ w).setCell (.inl ⟨rfl, rfl⟩) _
  refine ⟨⟨cell_fr hf h.b (fun e => by cases e.2), World.cell?_setCell_same _ _ _ h.i, by rw [World.frozen?_setCell]; exact h.fz, Rd.frb h.rd hf (fun hne x hx o e => h.ne (by rintro rfl; exact hne rfl) x hx e.1), h.ne, hn⟩, hf⟩
theorem atF_trans {w w1 w2 : World} {g : Nat} (h : Fr (atF g) w w1) (k : Fr (atF g) w1 w2) : Fr (atF g) w w2 := h.trans k (fun _ _ h => .inl h)
end
theorem u8_and127 (n : Int) : bits .and .u8 n 127 = n % 128 := by
  have h255 : (BitVec.ofInt 8 127).toNat = 2 ^ 7 - 1 := by decide
  have key : (BitVec.ofInt 8 n &&& BitVec.ofInt 8 127).toNat = (n % ((2 ^ 8 : Nat) : Int)).toNat % 2 ^ 7 := by
    rw [BitVec.toNat_and, BitVec.toNat_ofInt, h255, Nat.and_two_pow_sub_one_eq_mod]
  show IntKind.u8.wrap ((BitVec.ofInt 8 n &&& BitVec.ofInt 8 127).toNat : Nat) = n % 128
  rw [key, IntKind.wrap_u8]
  omega
/-- Two numbers that share no bit. -/
theorem u64_or (n x s : Nat) (hn : n < 2 ^ s) (hx : n + x * 2 ^ s < 18446744073709551616) : bits .or .u64 (n : Int) ((x * 2 ^ s : Nat) : Int) = ((n + x * 2 ^ s : Nat) : Int) := by
  have key : (BitVec.ofInt 64 (n : Int) ||| BitVec.ofInt 64 ((x * 2 ^ s : Nat) : Int)).toNat = n + x * 2 ^ s := by
    have e1 : (BitVec.ofInt 64 (n : Int)).toNat = n := by rw [BitVec.toNat_ofInt]; omega
    have e2 : (BitVec.ofInt 64 ((x * 2 ^ s : Nat) : Int)).toNat = x * 2 ^ s := by rw [BitVec.toNat_ofInt]; omega
    rw [BitVec.toNat_or, e1, e2, Nat.or_comm, Nat.mul_comm x, ← Nat.two_pow_add_eq_or_of_lt hn x, Nat.add_comm]
  show IntKind.u64.wrap ((BitVec.ofInt 64 (n : Int) ||| BitVec.ofInt 64 ((x * 2 ^ s : Nat) : Int)).toNat : Nat) = _
  rw [key, IntKind.wrap_u64]
  omega
theorem pow7 (k : Nat) : 128 ^ k = 2 ^ (7 * k) := by rw [Nat.pow_mul]
theorem lt_shift {n0 B k s : Nat} (hs : s = 7 * k) (hk : k ≤ 9) (hn : n0 < 2 ^ s) (hB : B < 128) (h9 : k = 9 → B ≤ 1) : n0 + B * 2 ^ s < 18446744073709551616 := by
  have h1 : n0 + B * 2 ^ s < (B + 1) * 2 ^ s := by rw [Nat.add_mul, Nat.one_mul]; omega
  refine Nat.lt_of_lt_of_le h1 ?_
  by_cases h : k = 9
  · subst h
    subst hs
    exact Nat.le_trans (Nat.mul_le_mul_right _ (show B + 1 ≤ 2 by have := h9 rfl; omega)) (by decide)
  · have h2 : 2 ^ s ≤ 2 ^ 56 := Nat.pow_le_pow_right (by decide) (by omega)
    exact Nat.le_trans (Nat.mul_le_mul (show B + 1 ≤ 128 by omega) h2) (by decide)
theorem u64_shl (B s : Nat) (h : B * 2 ^ s < 18446744073709551616) : IntKind.u64.wrap ((B : Int) * 2 ^ s) = ((B * 2 ^ s : Nat) : Int) := by
  have e : (B : Int) * 2 ^ s = ((B * 2 ^ s : Nat) : Int) := by push_cast; rfl
  rw [e, IntKind.wrap_u64]
  omega
/-- The step of the walk: X the shifted byte, Y the new number. -/
theorem shl_or {n0 B k s : Nat} (hs : s = 7 * k) (hk : k ≤ 9) (hn : n0 < 2 ^ s) (hB : B < 128) (h9 : k = 9 → B ≤ 1) :
    ∃ X Y : Nat, IntKind.u64.wrap ((B : Int) * 2 ^ s) = (X : Int) ∧ bits .or .u64 (n0 : Int) (X : Int) = (Y : Int) ∧ Y = n0 + B * 128 ^ k ∧ Y < 2 ^ (s + 7) ∧ Y < 18446744073709551616 := by
  have hlt := lt_shift hs hk hn hB h9
  refine ⟨B * 2 ^ s, n0 + B * 2 ^ s, u64_shl B s (by omega), u64_or n0 B s hn hlt, by rw [pow7, hs], ?_, hlt⟩
  have h1 : n0 + B * 2 ^ s < (B + 1) * 2 ^ s := by rw [Nat.add_mul, Nat.one_mul]; omega
  refine Nat.lt_of_lt_of_le h1 ?_
  rw [Nat.pow_add, Nat.mul_comm]
  exact Nat.mul_le_mul_left _ (by omega)
theorem drewN_below (w : World) (n : Nat) : Below w.heap.size w (w.drewN n) := ⟨rfl, rfl, rfl, Nat.le_refl _, fun _ _ => rfl⟩
/-- What reading groups leaves. -/
def ReadsG (w : World) (g : Nat) (a : Option Addr) (c : Nat) (bs : List UInt8) (at_ : Nat) (p : Option (Nat × Nat)) (e : Ending) (w' : World) : Prop :=
  match p with
  | none => ∃ n, e = .returned (.tuple #[.int .u64 0, .int .i64 11]) ∧ Rdr w' g a c bs n ∧ Fr (atF g) w w'
  | some q => e = .returned (.tuple #[.int .u64 (q.1 : Int), .int .i64 0]) ∧ Rdr w' g a c bs (at_ + q.2) ∧ Fr (atF g) w w'
set_option maxRecDepth 100000 in
set_option maxHeartbeats 1000000 in
theorem rGroups_any (g : Nat) (a : Option Addr) (c : Nat) (bs : List UInt8) (at_ : Nat) (hl : bs.length ≤ 1000000) (w : World) (h : Rdr w g a c bs at_) :
    Calls Try.prog 52 #[.pointer (some ⟨g, 0, none⟩)] w (ReadsG w g a c bs at_ (Fd.parse 0 (bs.drop at_))) := by
  have HR := Lib.hid h
  clear h
  generalize hp : Fd.parse 0 (bs.drop at_) = P
  have HP := Lib.hid hp
  clear hp
  go_enter Try.func52, Try.ntmps52
  go_wp2
  go_step3
  go_wp2
  go_step3
  go_wp2
  go_loopw [4, 5] (fun v s wr => ∃ (n0 s0 : Nat), v = .int .u64 (n0 : Int) ∧ s = .int .i64 (s0 : Int) ∧ s0 ≤ 63 ∧ Hid (∃ k, s0 = 7 * k ∧ k ≤ 9 ∧ n0 < 2 ^ s0 ∧ at_ + k ≤ bs.length ∧ Rdr wr g a c bs (at_ + k) ∧ Fr (atF g) w wr ∧ P = Fd.upto n0 k (Fd.parse k (bs.drop (at_ + k))))) (fun _ s _ => 100 - (intOf s).toNat)
  case atStart => exact ⟨0, 0, rfl, rfl, by omega, Lib.hid ⟨0, rfl, by omega, by decide, HR.out.le, HR.out, Fr.refl _ _, by rw [← HP.out, Nat.add_zero]; cases Fd.parse 0 (bs.drop at_) <;> simp [Fd.upto]⟩⟩
  case round =>
    obtain ⟨n0, s0, rfl, rfl, hs63, HS⟩ := hrel
    obtain ⟨wo, rfl⟩ : ∃ wo : World, wo = wr := ⟨_, rfl⟩
    obtain ⟨k, hk, hk9, hn0, hle, hr, hf, hP⟩ := HS.out
    have HA := Lib.hid (And.intro hk (And.intro hn0 (And.intro hr (And.intro hf hP))))
    have r0 := hr.b
    have r1 := hr.i
    have r2 := hr.fz
    clear hk hn0 hr hf hP HS
    by_cases hlt : at_ + k < bs.length
    · obtain ⟨x, hx⟩ : ∃ x, bs[at_ + k]? = some x := ⟨_, List.getElem?_eq_getElem hlt⟩
      obtain ⟨b, o, rfl, x0⟩ := (show RdB wo a c bs from HA.out.2.2.1.rd).at (at_ + k) x hx
      have HX : Hid (∀ W : World, RdB W (some ⟨b, o, none⟩) c bs → W.cell? ⟨b, o + (at_ + k), none⟩ = some (.int .u8 x.toNat)) := Lib.hid (fun W h => by
        obtain ⟨b', o', e, h2⟩ := h.at (at_ + k) x hx
        cases e
        exact h2)
      have hdrop : bs.drop (at_ + k) = x :: bs.drop (at_ + k + 1) := by
        rw [List.drop_eq_getElem_cons hlt]
        rw [List.getElem?_eq_getElem hlt] at hx
        rw [Option.some.inj hx]
      have HD := Lib.hid hdrop
      generalize hq : at_ + k = q at *
      have HQ := Lib.hid hq
      clear hx hdrop hq
      have q0 : (0 : Int) ≤ (q : Int) := by omega
      have q1 : (q : Int) < (bs.length : Int) := by omega
      go_wp2
      go_quiet (fail)
      have H1 := Lib.hid (And.intro (HA.out.2.2.1.later (drewN_below wo nq)) (atF_trans HA.out.2.2.2.1 (Fr.ofBelow (drewN_below wo nq) (atF g))))
      generalize wo.drewN nq = W1 at *
      clear r0 r1 r2 x0
      have r0 := H1.out.1.b
      have r1 := H1.out.1.i
      have x0 := HX.out W1 H1.out.1.rd
      clear nq
      go_wp2
      go_quiet (fail)
      have H2 := Lib.hid (And.intro (H1.out.1.later (drewN_below W1 nq)) (atF_trans H1.out.2 (Fr.ofBelow (drewN_below W1 nq) (atF g))))
      generalize W1.drewN nq = W2 at *
      clear r0 r1 x0
      have r1 := H2.out.1.i
      have r2 := H2.out.1.fz
      have HW := Lib.hid (Rdr.put H2.out.1 (n := q + 1) ((q : Int) + 1) (by omega) (by omega))
      have hB : x.toNat < 256 := x.toNat_lt
      by_cases hk9' : k = 9
      · have hs0 : ((s0 : Int) == 63) = true := by have := HA.out.1; simp; omega
        have hs1 : (0 : Int) < (s0 : Int) := by have := HA.out.1; omega
        have hs2 : (s0 : Int) ≤ 63 := by have := HA.out.1; omega
        by_cases hB1 : 1 < x.toNat
        · have hB2 : (1 : Int) < (x.toNat : Int) := by omega
          have HE : Hid (P = none) := Lib.hid (by rw [HA.out.2.2.2.2, HD.out, Fd.parse_big ⟨hk9', hB1⟩]; rfl)
          clear hB
          go_wp2
          rw [Exit.noGoto_ret]
          go_ret2
          rw [HE.out]
          exact ⟨q + 1, rfl, HW.out.1, atF_trans H2.out.2 HW.out.2⟩
        · have hB2 : (x.toNat : Int) ≤ 1 := by omega
          by_cases hB0 : x.toNat = 0
          · have hB3 : ((x.toNat : Int) == 0) = true := by simp [hB0]
            have HB0 := Lib.hid hB0
            clear hB0
            have HE : Hid (P = none) := Lib.hid (by rw [HA.out.2.2.2.2, HD.out, Fd.parse_zero HB0.out (by omega)]; rfl)
            clear hB
            go_wp2
            rw [Exit.noGoto_ret]
            go_ret2
            rw [HE.out]
            exact ⟨q + 1, rfl, HW.out.1, atF_trans H2.out.2 HW.out.2⟩
          · have hB3 : ((x.toNat : Int) == 0) = false := by simp; omega
            have HB0 := Lib.hid hB0
            obtain ⟨X, Y, e1, e2, e3, e4, e5⟩ := shl_or (n0 := n0) (B := x.toNat) HA.out.1 hk9 HA.out.2.1 (by omega) (fun _ => by omega)
            have HY := Lib.hid (And.intro e3 e5)
            have HE2 : Hid (bits .or .u64 (n0 : Int) (IntKind.u64.wrap ((x.toNat : Int) * 2 ^ s0)) = (Y : Int)) := Lib.hid (by rw [e1, e2])
            have HE : Hid (P = some (Y, 1 + k)) := Lib.hid (by rw [HA.out.2.2.2.2, HD.out, Fd.parse_last (by omega) (by omega) (fun h => HB0.out h.1), e3]; rfl)
            clear e1 e2 e3 e4 e5 hB
            go_wp2
            rw [Exit.noGoto_ret]
            go_ret2
            rw [HE.out]
            refine ⟨?_, by have h := HW.out.1; rwa [show q + 1 = at_ + (1 + k) by have := HQ.out; omega] at h, atF_trans H2.out.2 HW.out.2⟩
            show Ending.returned (.tuple #[.int .u64 _, .int .i64 0]) = _
            rw [HE2.out]
      · have hs0 : ((s0 : Int) == 63) = false := by have := HA.out.1; simp; omega
        have hs1 : (s0 : Int) ≤ 56 := by have := HA.out.1; omega
        by_cases hB1 : 128 ≤ x.toNat
        · obtain ⟨X, Y, e1, e2, e3, e4, e5⟩ := shl_or (n0 := n0) (B := x.toNat % 128) HA.out.1 hk9 HA.out.2.1 (Nat.mod_lt _ (by decide)) (fun h => absurd h hk9')
          have hand := u8_and127 (x.toNat : Int)
          have hB2 : (128 : Int) ≤ (x.toNat : Int) := by omega
          have hB3 : (x.toNat : Int) ≤ 255 := by omega
          have HY := Lib.hid (And.intro e3 (And.intro e4 e5))
          have HE2 : Hid (bits .or .u64 (n0 : Int) (IntKind.u64.wrap ((x.toNat : Int) % 128 * 2 ^ s0)) = (Y : Int)) := Lib.hid (by rw [show ((x.toNat : Int) % 128) = ((x.toNat % 128 : Nat) : Int) by omega, e1, e2])
          have HE : Hid (P = Fd.upto Y (k + 1) (Fd.parse (k + 1) (bs.drop (q + 1)))) := Lib.hid (by rw [HA.out.2.2.2.2, HD.out, Fd.parse_more hk9' hB1, Fd.upto_step, e3])
          clear e1 e2 e3 e4 e5 hB
          go_wp2
          go_roundw
          case rel => exact ⟨Y, s0 + 7, by rw [HE2.out], by go_num, by omega, Lib.hid ⟨k + 1, by have := HA.out.1; omega, by omega, HY.out.2.1, by have := HQ.out; omega, by have h := HW.out.1; rwa [show q + 1 = at_ + (k + 1) by have := HQ.out; omega] at h, atF_trans H2.out.2 HW.out.2, by rw [HE.out, show q + 1 = at_ + (k + 1) by have := HQ.out; omega]⟩⟩
          case measure => simp [intOf]; omega
        · have hB2 : (x.toNat : Int) ≤ 127 := by omega
          by_cases hB0 : x.toNat = 0
          · have hB3 : ((x.toNat : Int) == 0) = true := by simp [hB0]
            by_cases hk0 : 0 < k
            · have hs2 : (0 : Int) < (s0 : Int) := by have := HA.out.1; omega
              have HB0 := Lib.hid hB0
              clear hB0
              have HE : Hid (P = none) := Lib.hid (by rw [HA.out.2.2.2.2, HD.out, Fd.parse_zero HB0.out hk0]; rfl)
              clear hB
              go_wp2
              rw [Exit.noGoto_ret]
              go_ret2
              rw [HE.out]
              exact ⟨q + 1, rfl, HW.out.1, atF_trans H2.out.2 HW.out.2⟩
            · have hs2 : (s0 : Int) ≤ 0 := by have := HA.out.1; omega
              have HB0 := Lib.hid hB0
              clear hB0
              obtain ⟨X, Y, e1, e2, e3, e4, e5⟩ := shl_or (n0 := n0) (B := x.toNat) HA.out.1 hk9 HA.out.2.1 (by omega) (fun h => absurd h hk9')
              have HY := Lib.hid (And.intro e3 e5)
              have HE2 : Hid (bits .or .u64 (n0 : Int) (IntKind.u64.wrap ((x.toNat : Int) * 2 ^ s0)) = (Y : Int)) := Lib.hid (by rw [e1, e2])
              have HE : Hid (P = some (Y, 1 + k)) := Lib.hid (by rw [HA.out.2.2.2.2, HD.out, Fd.parse_last (fun h => hk9' h.1) (by omega) (fun h => hk0 h.2), e3]; rfl)
              clear e1 e2 e3 e4 e5 hB
              go_wp2
              rw [Exit.noGoto_ret]
              go_ret2
              rw [HE.out]
              refine ⟨?_, by have h := HW.out.1; rwa [show q + 1 = at_ + (1 + k) by have := HQ.out; omega] at h, atF_trans H2.out.2 HW.out.2⟩
              show Ending.returned (.tuple #[.int .u64 _, .int .i64 0]) = _
              rw [HE2.out]
          · have hB3 : ((x.toNat : Int) == 0) = false := by simp; omega
            have HB0 := Lib.hid hB0
            obtain ⟨X, Y, e1, e2, e3, e4, e5⟩ := shl_or (n0 := n0) (B := x.toNat) HA.out.1 hk9 HA.out.2.1 (by omega) (fun h => absurd h hk9')
            have HY := Lib.hid (And.intro e3 e5)
            have HE2 : Hid (bits .or .u64 (n0 : Int) (IntKind.u64.wrap ((x.toNat : Int) * 2 ^ s0)) = (Y : Int)) := Lib.hid (by rw [e1, e2])
            have HE : Hid (P = some (Y, 1 + k)) := Lib.hid (by rw [HA.out.2.2.2.2, HD.out, Fd.parse_last (fun h => hk9' h.1) (by omega) (fun h => HB0.out h.1), e3]; rfl)
            clear e1 e2 e3 e4 e5 hB
            go_wp2
            rw [Exit.noGoto_ret]
            go_ret2
            rw [HE.out]
            refine ⟨?_, by have h := HW.out.1; rwa [show q + 1 = at_ + (1 + k) by have := HQ.out; omega] at h, atF_trans H2.out.2 HW.out.2⟩
            show Ending.returned (.tuple #[.int .u64 _, .int .i64 0]) = _
            rw [HE2.out]
    · have hq : at_ + k = bs.length := by omega
      have hdn : bs.drop (at_ + k) = [] := by rw [hq, List.drop_length]
      have HE : Hid (P = none) := Lib.hid (by rw [HA.out.2.2.2.2, hdn, Fd.parse_nil]; rfl)
      have HR2 := Lib.hid (And.intro (HA.out.2.2.1.later (drewN_below wo 0)) HA.out.2.2.2.1)
      have HQ := Lib.hid hq
      rw [hq] at r1
      clear hq hdn hlt hle
      go_wp2
      go_quiet (fail)
      have H1 := Lib.hid (And.intro (HA.out.2.2.1.later (drewN_below wo nq)) (atF_trans HA.out.2.2.2.1 (Fr.ofBelow (drewN_below wo nq) (atF g))))
      go_wp2
      rw [Exit.noGoto_ret]
      go_ret2
      rw [HE.out]
      exact ⟨_, rfl, H1.out.1, H1.out.2⟩
end Go.Proofs.Ytapjdcofnigjhaa
