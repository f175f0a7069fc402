/- Joined: Fd, Fd2, Field1, Field2, Field3, Field4, Field5, Field6. -/
import GoSem.Op.String
import Derived.Test.YtecnijnmgdfdhaaGreatProg
import Derived.Test.YtecnijnmgdfdhaaGreatYKit
import Derived.Handy
import Derived.Deep.LoopGhost
import Derived.Lib.Strings
import Derived.Deep.QuietTactic
import Derived.BigQuiet
import Derived.WalkSpells
import Derived.WalkMore
namespace Go.Proofs.YtecnijnmgdfdhaaGreat.Rw
namespace Fd
def grp (n : Nat) : List UInt8 := if n < 128 then [UInt8.ofNat n] else UInt8.ofNat (n % 128 + 128) :: grp (n / 128)
termination_by n
decreasing_by omega
theorem grp_small {n : Nat} (h : n < 128) : grp n = [UInt8.ofNat n] := by rw [grp, if_pos h]
theorem grp_big {n : Nat} (h : 128 ≤ n) : grp n = UInt8.ofNat (n % 128 + 128) :: grp (n / 128) := by rw [grp, if_neg (by omega)]
theorem grp_len (k : Nat) : ∀ n, n < 128 ^ (k + 1) → (grp n).length ≤ k + 1 := by
 induction k with
 | zero => intro n h; rw [grp_small (by simpa using h)]; simp
 | succ k ih =>
  intro n h
  by_cases hn : n < 128
  ·rw [grp_small hn]; simp
  ·rw [grp_big (by omega), List.length_cons]
   have := ih (n / 128) (Nat.div_lt_of_lt_mul (by rw [Nat.pow_succ] at h; omega))
   omega
theorem grp_pos (n : Nat) : 1 ≤ (grp n).length := by
 rw [grp]; split <;> simp
theorem grp_ten {n : Nat} (h : n < 18446744073709551616) : (grp n).length ≤ 10 := grp_len 9 n (Nat.lt_of_lt_of_le h (by decide))
def zig (v : Int) : Nat := if v < 0 then (2 * (-1 - v) + 1).toNat else (2 * v).toNat
def zag (n : Nat) : Int := if n % 2 = 1 then -1 - (n / 2 : Nat) else (n / 2 : Nat)
def In (v : Int) : Prop := -9223372036854775808 ≤ v ∧ v ≤ 9223372036854775807
theorem zig_lt {v : Int} (h : In v) : zig v < 18446744073709551616 := by unfold zig In at *; split <;> omega
theorem zag_zig (v : Int) : zag (zig v) = v := by
 unfold zig zag
 split
 ·rename_i h
  have : (2 * (-1 - v) + 1).toNat % 2 = 1 := by omega
  rw [if_pos this]; omega
 ·rename_i h
  have : ¬ (2 * v).toNat % 2 = 1 := by omega
  rw [if_neg this]; omega
end Fd
end Go.Proofs.YtecnijnmgdfdhaaGreat.Rw

namespace Go.Proofs.YtecnijnmgdfdhaaGreat.Rw
namespace Fd
def parse : Nat → List UInt8 → Option (Nat × Nat)
 | _, [] => none
 | k, b :: bs =>
  if k = 9 ∧ 1 < b.toNat then none
  else if 128 ≤ b.toNat then (parse (k + 1) bs).map fun p => (b.toNat % 128 + 128 * p.1, p.2 + 1)
  else if b.toNat = 0 ∧ 0 < k then none
  else some (b.toNat, 1)
theorem parse_nil (k : Nat) : parse k [] = none := by unfold parse; rfl
theorem parse_big {k : Nat} {b : UInt8} {bs : List UInt8} (h : k = 9 ∧ 1 < b.toNat) : parse k (b :: bs) = none := by rw [parse, if_pos h]
theorem parse_more {k : Nat} {b : UInt8} {bs : List UInt8} (h : k ≠ 9) (hb : 128 ≤ b.toNat) : parse k (b :: bs) = (parse (k + 1) bs).map fun p => (b.toNat % 128 + 128 * p.1, p.2 + 1) := by
 rw [parse, if_neg (fun h' => h h'.1), if_pos hb]
theorem parse_zero {k : Nat} {b : UInt8} {bs : List UInt8} (hb : b.toNat = 0) (hk : 0 < k) : parse k (b :: bs) = none := by
 rw [parse, if_neg (by omega), if_neg (by omega), if_pos ⟨hb, hk⟩]
theorem parse_last {k : Nat} {b : UInt8} {bs : List UInt8} (h : ¬ (k = 9 ∧ 1 < b.toNat)) (hb : b.toNat < 128) (h0 : ¬ (b.toNat = 0 ∧ 0 < k)) : parse k (b :: bs) = some (b.toNat, 1) := by
 rw [parse, if_neg h, if_neg (by omega), if_neg h0]
theorem pow_up {n r k : Nat} (hk : k ≤ 8) (hr : r < 128) (h : n * 128 ^ (k + 1) < 18446744073709551616) : (r + 128 * n) * 128 ^ k < 18446744073709551616 := by
 obtain ⟨q, hq⟩ : ∃ q, 128 ^ (k + 1) * q = 18446744073709551616 := by
  have hkk : k = 0 ∨ k = 1 ∨ k = 2 ∨ k = 3 ∨ k = 4 ∨ k = 5 ∨ k = 6 ∨ k = 7 ∨ k = 8 := by omega
  rcases hkk with rfl | rfl | rfl | rfl | rfl | rfl | rfl | rfl | rfl
  ·exact ⟨144115188075855872, by decide⟩
  ·exact ⟨1125899906842624, by decide⟩
  ·exact ⟨8796093022208, by decide⟩
  ·exact ⟨68719476736, by decide⟩
  ·exact ⟨536870912, by decide⟩
  ·exact ⟨4194304, by decide⟩
  ·exact ⟨32768, by decide⟩
  ·exact ⟨256, by decide⟩
  ·exact ⟨2, by decide⟩
 have hp : 0 < 128 ^ k := Nat.pow_pos (by decide)
 rw [← hq] at h ⊢
 have h1 : n < q := Nat.lt_of_mul_lt_mul_left (a := 128 ^ (k + 1)) (by rw [Nat.mul_comm _ n]; exact h)
 have h2 : 128 ^ (k + 1) * q = 128 * q * 128 ^ k := by rw [Nat.pow_succ, Nat.mul_comm (128 ^ k), Nat.mul_right_comm]
 rw [h2]
 exact Nat.mul_lt_mul_of_pos_right (by omega) hp
theorem pow_last {n k : Nat} (hk : k ≤ 9) (hn : n < 128) (h : k = 9 → n ≤ 1) : n * 128 ^ k < 18446744073709551616 := by
 by_cases hk9 : k = 9
 ·subst hk9
  exact Nat.lt_of_le_of_lt (Nat.mul_le_mul_right _ (h rfl)) (by decide)
 ·have h1 : 128 ^ k ≤ 128 ^ 8 := Nat.pow_le_pow_right (by decide) (by omega)
  exact Nat.lt_of_le_of_lt (Nat.mul_le_mul (show n ≤ 127 by omega) h1) (by decide)
theorem pow_one {n : Nat} (h : n * 128 ^ 9 < 18446744073709551616) : n ≤ 1 := by
 have : n < 2 := Nat.lt_of_mul_lt_mul_right (a := 128 ^ 9) (Nat.lt_of_lt_of_le h (by decide))
 omega
theorem pow_down {n k : Nat} (h : n * 128 ^ k < 18446744073709551616) : n / 128 * 128 ^ (k + 1) < 18446744073709551616 := by
 rw [Nat.pow_succ, Nat.mul_comm (128 ^ k) 128, ← Nat.mul_assoc]
 exact Nat.lt_of_le_of_lt (Nat.mul_le_mul_right _ (Nat.div_mul_le_self n 128)) h
theorem parse_some (bs : List UInt8) : ∀ (k n c : Nat), k ≤ 9 → parse k bs = some (n, c) → grp n = bs.take c ∧ 1 ≤ c ∧ c ≤ bs.length ∧ k + c ≤ 10 ∧ n * 128 ^ k < 18446744073709551616 ∧ (k = 0 ∨ 0 < n) := by
 induction bs with
 | nil => intro k n c _ h; rw [parse_nil] at h; cases h
 | cons b bs ih =>
  intro k n c hk h
  have hb256 := b.toNat_lt
  by_cases h1 : k = 9 ∧ 1 < b.toNat
  ·rw [parse_big h1] at h; cases h
  by_cases h2 : 128 ≤ b.toNat
  ·have hk9 : k ≠ 9 := fun e => h1 ⟨e, by omega⟩
   rw [parse_more hk9 h2] at h
   cases hp : parse (k + 1) bs with
   | none => rw [hp] at h; cases h
   | some p =>
    obtain ⟨n', c'⟩ := p
    rw [hp] at h
    simp only [Option.map_some, Option.some.injEq, Prod.mk.injEq] at h
    obtain ⟨rfl, rfl⟩ := h
    obtain ⟨i1, i2, i3, i4, i5, i6⟩ := ih (k + 1) n' c' (by omega) hp
    have hn : 0 < n' := by rcases i6 with h | h <;> omega
    refine ⟨?_, by omega, by rw [List.length_cons]; omega, by omega, ?_, .inr (by omega)⟩
    ·rw [grp_big (by omega), List.take_succ_cons, show (b.toNat % 128 + 128 * n') % 128 = b.toNat % 128 by omega, show (b.toNat % 128 + 128 * n') / 128 = n' by omega, i1]
     congr 1
     rw [← UInt8.toNat_inj, UInt8.toNat_ofNat']
     omega
    ·exact pow_up (by omega) (Nat.mod_lt _ (by decide)) i5
  ·by_cases h3 : b.toNat = 0 ∧ 0 < k
   ·rw [parse_zero h3.1 h3.2] at h; cases h
   ·rw [parse_last h1 (by omega) h3] at h
    simp only [Option.some.injEq, Prod.mk.injEq] at h
    obtain ⟨rfl, rfl⟩ := h
    refine ⟨?_, by omega, by rw [List.length_cons]; omega, by omega, ?_, by omega⟩
    ·rw [grp_small (by omega), List.take_succ_cons, List.take_zero]
     congr 1
     rw [← UInt8.toNat_inj, UInt8.toNat_ofNat']
     omega
    ·exact pow_last hk (by omega) (fun e => by omega)
theorem parse_grp (m : Nat) : ∀ (k n : Nat) (rest : List UInt8), n < m → k ≤ 9 → n * 128 ^ k < 18446744073709551616 → (k = 0 ∨ 0 < n) → parse k (grp n ++ rest) = some (n, (grp n).length) := by
 induction m with
 | zero => intro k n rest h; omega
 | succ m ih =>
  intro k n rest hm hk hn h0
  by_cases hs : n < 128
  ·have e : (UInt8.ofNat n).toNat = n := by rw [UInt8.toNat_ofNat']; omega
   rw [grp_small hs, List.singleton_append, parse_last (by
    rw [e]
    rintro ⟨rfl, h1⟩
    have := pow_one hn
    omega) (by omega) (by omega), e]
   rfl
  ·have e : (UInt8.ofNat (n % 128 + 128)).toNat = n % 128 + 128 := by rw [UInt8.toNat_ofNat']; omega
   have hk9 : k ≠ 9 := by
    rintro rfl
    have := pow_one hn
    omega
   have hn2 := pow_down hn
   rw [grp_big (by omega), List.cons_append, parse_more hk9 (by omega), ih (k + 1) (n / 128) rest (by omega) (by omega) hn2 (.inr (by omega)), e]
   simp only [Option.map_some, List.length_cons]
   congr 2
   omega
theorem parse_back {n : Nat} (h : n < 18446744073709551616) (rest : List UInt8) : parse 0 (grp n ++ rest) = some (n, (grp n).length) :=
 parse_grp (n + 1) 0 n rest (by omega) (by omega) (by simpa using h) (.inl rfl)
theorem parse_at {bs : List UInt8} {n c : Nat} (h : parse 0 bs = some (n, c)) : n < 18446744073709551616 ∧ grp n = bs.take c ∧ 1 ≤ c ∧ c ≤ bs.length ∧ c ≤ 10 := by
 obtain ⟨h1, h2, h3, h4, h5, _⟩ := parse_some bs 0 n c (by omega) h
 exact ⟨by simpa using h5, h1, h2, h3, by omega⟩
def upto (n0 k : Nat) (p : Option (Nat × Nat)) : Option (Nat × Nat) := p.map fun q => (n0 + q.1 * 128 ^ k, q.2 + k)
theorem upto_step {n0 k b : Nat} (p : Option (Nat × Nat)) : upto n0 k (p.map fun q => (b + 128 * q.1, q.2 + 1)) = upto (n0 + b * 128 ^ k) (k + 1) p := by
 cases p with
 | none => rfl
 | some q =>
  simp only [upto, Option.map_some, Option.some.injEq, Prod.mk.injEq]
  refine ⟨?_, by omega⟩
  rw [Nat.add_mul, Nat.pow_succ, Nat.mul_comm 128 q.1, Nat.mul_assoc, Nat.mul_comm 128 (128 ^ k), Nat.add_assoc]
end Fd
end Go.Proofs.YtecnijnmgdfdhaaGreat.Rw

namespace Go.Proofs.YtecnijnmgdfdhaaGreat.Rw
open Go.RowKit

theorem u64_and127 (n : Int) : bits .and .u64 n 127 = n % 128 := by
 have h255 : (BitVec.ofInt 64 127).toNat = 2 ^ 7 - 1 := by decide
 have key : (BitVec.ofInt 64 n &&& BitVec.ofInt 64 127).toNat = (n % ((2 ^ 64 : Nat) : Int)).toNat % 2 ^ 7 := by
  rw [BitVec.toNat_and, BitVec.toNat_ofInt, h255, Nat.and_two_pow_sub_one_eq_mod]
 show IntKind.u64.wrap ((BitVec.ofInt 64 n &&& BitVec.ofInt 64 127).toNat : Nat) = n % 128
 rw [key, IntKind.wrap_u64]
 omega
theorem u8_or128 (n : Int) (h0 : 0 ≤ n) (h : n < 128) : bits .or .u8 n 128 = n + 128 := by
 obtain ⟨m, rfl⟩ : ∃ m : Nat, n = m := ⟨n.toNat, by omega⟩
 have key : (BitVec.ofInt 8 (m : Int) ||| BitVec.ofInt 8 128).toNat = 128 + m := by
  have e1 : (BitVec.ofInt 8 (m : Int)).toNat = m := by rw [BitVec.toNat_ofInt]; omega
  have e2 : (BitVec.ofInt 8 128).toNat = 128 := by decide
  rw [BitVec.toNat_or, e1, e2, Nat.or_comm]
  exact (Nat.two_pow_add_eq_or_of_lt (i := 7) (by omega) 1).symm
 show IntKind.u8.wrap ((BitVec.ofInt 8 (m : Int) ||| BitVec.ofInt 8 128).toNat : Nat) = _
 rw [key, IntKind.wrap_u8]
 omega

theorem Tryz.infoByte : (Tryz.prog.info? 5).map (fun i => (i.zero, i.size, i.bytes)) = some (some (.int .u8 0), 1, 1) := by kernel_rfl

structure Wr (w : World) (g : Nat) (G : Foot) (a : Option Addr) (c : Nat) (bs : List UInt8) : Prop where
 cell : w.cell? ⟨g, 0, none⟩ = some (.slice a bs.length c)
 froz : w.frozen? ⟨g, 0, none⟩ = false
 sl : Sl w 1 G a bs.length c (bytesV bs)
 lies : Lies w G
 ne : ∀ o, ¬ G g o
def wf (g : Nat) (G : Foot) : Foot := fun b o => b = g ∨ G b o
theorem Wr.fr {S : Foot} {w w' : World} {g : Nat} {G : Foot} {a : Option Addr} {c : Nat} {bs : List UInt8} (h : Wr w g G a c bs) (hf : Fr S w w') (hd : Apart (wf g G) S) : Wr w' g G a c bs :=
 ⟨cell_fr hf h.cell (hd _ _ (.inl rfl)), (hf.froz _ _ (block_of_cell h.cell) (hd _ _ (.inl rfl))).trans h.froz, h.sl.fr hf (fun b o hb => hd b o (.inr hb)), h.lies.later hf, h.ne⟩
theorem Wr.later {w w' : World} {g : Nat} {G : Foot} {a : Option Addr} {c : Nat} {bs : List UInt8} (h : Wr w g G a c bs) (hb : Below w.heap.size w w') : Wr w' g G a c bs :=
 h.fr (Fr.ofBelow hb noCells) (fun _ _ _ h => h)
def Writes (w : World) (g : Nat) (G : Foot) (bs : List UInt8) (w' : World) : Prop := ∃ a c G', Wr w' g G' a c bs ∧ Fr (wf g G) w w' ∧ Grew w G G'

theorem Wr.app {w wr w2 : World} {g : Nat} {G G' F2 : Foot} {a' a2 : Option Addr} {c' c2 N : Nat} {bs' bs2 : List UInt8} {o : Obj} (h : Wr wr g G' a' c' bs') (hf : Fr (wf g G) w wr) (hg : Grew w G G')
  (hs : Sl w2 1 F2 a2 N c2 (bytesV bs2)) (hfr : Fr G' (wr.alloc o) w2) (hgr : Grew (wr.alloc o) G' F2) (hl : Lies w2 F2) (hgw : g < w.heap.size) :
  w2.cell? ⟨g, 0, none⟩ = some (.slice a' bs'.length c') ∧ w2.frozen? ⟨g, 0, none⟩ = false ∧
  Wr (w2.setCell ⟨g, 0, none⟩ (.slice a2 N c2)) g F2 a2 c2 bs2 ∧ Fr (wf g G) w (w2.setCell ⟨g, 0, none⟩ (.slice a2 N c2)) ∧ Grew w G F2 := by
 have hlt := block_of_cell h.cell
 have hN := sl_len hs
 subst hN
 have h1 := h.fr ((Fr.refl noCells wr).alloc o) (fun _ _ _ h => h)
 have h2 : w2.cell? ⟨g, 0, none⟩ = some (.slice a' bs'.length c') := cell_fr hfr h1.cell (h.ne 0)
 have h3 : w2.frozen? ⟨g, 0, none⟩ = false := (hfr.froz _ _ (block_of_cell h1.cell) (h.ne 0)).trans h1.froz
 have hne : ∀ o, ¬ F2 g o := fun o hg2 => by
  rcases hgr g o hg2 with h4 | h4
  ·exact h.ne o h4
  ·have := block_of_cell h1.cell; simp only at this; omega
 have hg2 : Grew w G F2 := hg.trans (w1 := wr) (fun b o hb => by
  rcases hgr b o hb with h4 | h4
  ·exact .inl h4
  ·rw [World.size_alloc] at h4; exact .inr (by omega)) hf.size
 have hfw : Fr (wf g G) w w2 := (hf.alloc o).trans hfr (fun b o hb => by
  rcases hg b o hb with h4 | h4
  ·exact .inl (.inr h4)
  ·exact .inr h4)
 have hst : Fr (fun k i => k = g ∧ i = 0) w2 (w2.setCell ⟨g, 0, none⟩ (.slice a2 bs2.length c2)) := (Fr.refl _ w2).setCell (.inl ⟨rfl, rfl⟩) _
 refine ⟨h2, h3, ⟨World.cell?_setCell_same _ _ _ h2, by simpa using h3, hs.fr hst (fun b o hb ⟨e1, _⟩ => hne o (e1 ▸ hb)), hl.later hst, hne⟩, hfw.setCell (.inl (.inl rfl)) _, hg2⟩

set_option maxRecDepth 100000 in
set_option maxHeartbeats 1000000 in
theorem groups_any (g : Nat) (G : Foot) (a : Option Addr) (c : Nat) (bs : List UInt8) (n : Nat) (hn : n < 18446744073709551616) (hb : bs.length ≤ 1000000) (w : World) (hw : Wr w g G a c bs) :
  Calls Tryz.prog 128 #[.pointer (some ⟨g, 0, none⟩), .int .u64 n] w fun e w' => e = .returned (.tuple #[]) ∧ Writes w g G (bs ++ Fd.grp n) w' := by
 obtain ⟨i0, hi, hz0, hz1, hz2⟩ := info_parts Tryz.infoByte
 have hgw : g < w.heap.size := block_of_cell hw.cell
 have HW := Lib.hid hw
 have hten := Fd.grp_ten hn
 clear hw
 go_enter Tryz.func128, Tryz.ntmps128
 go_wp2
 go_loopw [1] (fun v wr => ∃ (m : Nat) (a' : Option Addr) (c' : Nat) (G' : Foot) (bs' : List UInt8), v = .int .u64 m ∧ m < 18446744073709551616 ∧ bs'.length ≤ 1000010 ∧
  Hid (Wr wr g G' a' c' bs' ∧ bs' ++ Fd.grp m = bs ++ Fd.grp n ∧ Fr (wf g G) w wr ∧ Grew w G G')) (fun v _ => (intOf v).toNat)
 case atStart => exact ⟨n, a, c, G, bs, rfl, hn, by omega, Lib.hid ⟨HW.out, rfl, Fr.refl _ _, Grew.refl _ _⟩⟩
 case round =>
  obtain ⟨m, a', c', G', bs', rfl, hm, hbl, HR⟩ := hrel
  have hcell := HR.out.1.cell
  have hfro := HR.out.1.froz
  have hbl9 : bs'.length < 1000000000 := by omega
  by_cases hlt : m < 128
  ·have hm256 : m < 256 := by omega
   go_wp2_with (at_builtin; refine wpList_app_byte rfl (.tmp 25) (.tmp 28) 129 rfl 5 i0 Tryz.underlying129 hi hz0 hz1 hz2 G' a' c' bs' rfl HR.out.1.sl HR.out.1.lies (m : Int) m rfl hm256 rfl hbl9 ?_; intro a2 c2 w2 F2 hsl hfr hgr hli; have HA := Lib.hid (HR.out.1.app HR.out.2.2.1 HR.out.2.2.2 hsl hfr hgr hli hgw); have f1 := HA.out.1; have f2 := HA.out.2.1; clear hsl hfr hgr hli hcell hfro)
   go_end0
   have hd : bs' ++ [UInt8.ofNat m] = bs ++ Fd.grp n := by rw [← Fd.grp_small hlt]; exact HR.out.2.1
   rw [← hd]
   exact ⟨rfl, _, _, _, HA.out.2.2.1, HA.out.2.2.2.1, HA.out.2.2.2.2⟩
  ·have hand := u64_and127 (m : Int)
   have hor := u8_or128 ((m : Int) % 128) (by omega) (by omega)
   have HM : Hid ((m : Int) % 128 + 128 = ((m % 128 + 128 : Nat) : Int)) := Lib.hid (by omega)
   have hm256 : m % 128 + 128 < 256 := by omega
   go_wp2_with (at_builtin; refine wpList_app_byte rfl (.tmp 10) (.tmp 15) 129 rfl 5 i0 Tryz.underlying129 hi hz0 hz1 hz2 G' a' c' bs' rfl HR.out.1.sl HR.out.1.lies ((m : Int) % 128 + 128) (m % 128 + 128) HM.out hm256 rfl hbl9 ?_; intro a2 c2 w2 F2 hsl hfr hgr hli; have HA := Lib.hid (HR.out.1.app HR.out.2.2.1 HR.out.2.2.2 hsl hfr hgr hli hgw); have f1 := HA.out.1; have f2 := HA.out.2.1; clear hsl hfr hgr hli hcell hfro)
   have hacc : (bs' ++ [UInt8.ofNat (m % 128 + 128)]) ++ Fd.grp (m / 128) = bs ++ Fd.grp n := by
    rw [← HR.out.2.1, Fd.grp_big (n := m) (by omega), List.append_assoc]; rfl
   have hl : (bs' ++ [UInt8.ofNat (m % 128 + 128)]).length ≤ 1000010 := by
    have h1 := congrArg List.length hacc
    have h2 := Fd.grp_pos (m / 128)
    simp only [List.length_append] at h1 h2 ⊢
    omega
   have HC := Lib.hid hacc
   clear hacc
   go_roundw
   case rel => exact ⟨m / 128, a2, c2, F2, _, by go_num, by omega, hl, Lib.hid ⟨HA.out.2.2.1, HC.out, HA.out.2.2.2.1, HA.out.2.2.2.2⟩⟩
   case measure => simp [intOf]; omega
end Go.Proofs.YtecnijnmgdfdhaaGreat.Rw

namespace Go.Proofs.YtecnijnmgdfdhaaGreat.Rw
open Go.RowKit

set_option maxHeartbeats 400000 in
theorem clone_any (a : Option Addr) (c : Nat) (bs : List UInt8) (w : World) (hrd : RdB w a c bs) (hlen : bs.length ≤ 140737488355328) :
  Calls Tryz.prog 129 #[.slice a bs.length c] w fun e w' => GivesB w bs e w' := by
 have hnil := fun (w : World) (n c n' c' : Nat) => Lib.run_eql_slice_nil (P := Tryz.prog) w 129 5 a n c n' c' Tryz.underlying129
 cases a with
 | none =>
  have hb : bs = [] := by
   have h1 := Rd.nil hrd rfl
   have h2 := Rd.le hrd
   exact List.eq_nil_of_length_eq_zero (by omega)
  go_enter Tryz.func129, Tryz.ntmps129
  go_wp2
  go_ret
  subst hb
  exact ⟨none, 0, rfl, Rd.nilSlice _ _, Below.refl _ _⟩
 | some x =>
  obtain ⟨i0, hi, hz0, hz1, hz2⟩ := info_parts Tryz.infoByte
  have hmade := World.ownsRow_made (e := 5) (size := 1) w #[] 0 (Nat.le_refl w.heap.size) (Nat.zero_le _) rfl
  have hlater : RdB (w.alloc (.cells #[] 5)) (some x) c bs := hrd.later ((Below.refl _ _).alloc (Nat.le_refl _) _)
  have H1 := Lib.hid hmade
  have H2 := Lib.hid hlater
  clear hmade hlater
  go_enter Tryz.func129, Tryz.ntmps129
  go_wp2_with (at_builtin; refine wpList_app rfl _ _ 129 rfl w.heap.size 5 i0 (.int .u8 0) 1 1 Tryz.underlying129 hi hz0 hz1 hz2 rfl (by decide) _ 0 0 [] rfl H1.out _ bs.length c (bytesV bs) rfl H2.out (by unfold maxLen; omega) (by omega) (by simp) ?_; intro a' c' w' hown hgrow)
  simp only [Nat.zero_add] at *
  go_ret
  obtain ⟨a2, c2, h2, hrd2, _⟩ := Rd.ofOwn hown (bytesV_one bs)
  cases h2
  refine ⟨_, _, rfl, hrd2, ?_⟩
  exact ((Below.refl _ _).alloc (Nat.le_refl _) _).grown hgrow (by simp) (fun k hk => by cases hk; exact Nat.le_refl _)


set_option maxRecDepth 100000 in
set_option maxHeartbeats 1000000 in
theorem wInt_any (g : Nat) (G : Foot) (a : Option Addr) (c : Nat) (bs : List UInt8) (v : Int) (hv : Fd.In v) (hb : bs.length ≤ 1000000) (w : World) (hw : Wr w g G a c bs) :
  Calls Tryz.prog 96 #[.pointer (some ⟨g, 0, none⟩), .int .i64 v] w fun e w' => e = .returned (.int .i64 0) ∧ Writes w g G (bs ++ Fd.grp (Fd.zig v)) w' := by
 have hg := groups_any g G a c bs (Fd.zig v) (Fd.zig_lt hv) hb w hw
 have h1 : -9223372036854775808 ≤ v := hv.1
 have h2 : v ≤ 9223372036854775807 := hv.2
 clear hw hv
 by_cases hneg : v < 0
 ·have hz : Fd.zig v = (2 * (-1 - v) + 1).toNat := by unfold Fd.zig; rw [if_pos hneg]
  have e2 : ((Fd.zig v : Nat) : Int) = 2 * (-1 - v) + 1 := by omega
  rw [e2] at hg
  have HG := Lib.hid hg
  clear e2 hz hg
  go_enter Tryz.func96, Tryz.ntmps96
  go_wp2_with (go_at_call 128; refine HG.out.mono ?_; rintro e w1 ⟨rfl, hw1⟩; have HW := Lib.hid hw1; clear hw1)
  go_ret
  exact ⟨rfl, HW.out⟩
 ·have hz : Fd.zig v = (2 * v).toNat := by unfold Fd.zig; rw [if_neg hneg]
  have e2 : ((Fd.zig v : Nat) : Int) = 2 * v := by omega
  rw [e2] at hg
  have HG := Lib.hid hg
  clear e2 hz hg
  go_enter Tryz.func96, Tryz.ntmps96
  go_wp2_with (go_at_call 128; refine HG.out.mono ?_; rintro e w1 ⟨rfl, hw1⟩; have HW := Lib.hid hw1; clear hw1)
  go_ret
  exact ⟨rfl, HW.out⟩
theorem wBytes_any (g : Nat) (G : Foot) (a : Option Addr) (c : Nat) (bs : List UInt8) (hb : bs.length ≤ 10000000) (w : World) (hw : Wr w g G a c bs) :
  Calls Tryz.prog 97 #[.pointer (some ⟨g, 0, none⟩)] w fun e w' => GivesB w bs e w' := by
 have HC := Lib.hid (clone_any a c bs w hw.sl.rd (by omega))
 have hc := hw.cell
 clear hw
 go_enter Tryz.func97, Tryz.ntmps97
 go_wp2_with (go_at_call 129; refine HC.out.mono ?_; rintro e w1 ⟨a1, c1, rfl, hw1⟩; have HW := Lib.hid hw1; clear hw1)
 go_ret
 exact ⟨_, _, rfl, HW.out⟩

def LocB (w0 w : World) (a : Option Addr) (c : Nat) (bs : List UInt8) : Prop := ∃ F, Sl w 1 F a bs.length c (bytesV bs) ∧ Lies w F ∧ (∀ b o, F b o → w0.heap.size ≤ b) ∧ Below w0.heap.size w0 w
theorem LocB.rd {w0 w : World} {a : Option Addr} {c : Nat} {bs : List UInt8} (h : LocB w0 w a c bs) : RdB w a c bs := by
 obtain ⟨F, h1, _⟩ := h
 exact h1.rd
theorem LocB.low {w0 w : World} {a : Option Addr} {c : Nat} {bs : List UInt8} (h : LocB w0 w a c bs) : Below w0.heap.size w0 w := by
 obtain ⟨F, _, _, _, h1⟩ := h
 exact h1
theorem LocB.start (w0 w : World) (hb : Below w0.heap.size w0 w) : LocB w0 w none 0 [] := ⟨noCells, Sl.none_ w 1, fun _ _ h => h.elim, fun _ _ h => h.elim, hb⟩
theorem LocB.later {w0 w w' : World} {a : Option Addr} {c : Nat} {bs : List UInt8} (h : LocB w0 w a c bs) (hb : Below w.heap.size w w') : LocB w0 w' a c bs := by
 obtain ⟨F, h1, h2, h3, h4⟩ := h
 exact ⟨F, h1.fr (Fr.ofBelow hb noCells) (fun _ _ _ h => h), h2.later (Fr.ofBelow hb noCells), h3, h4.trans (hb.mono h4.size)⟩
theorem LocB.app {w0 w w2 : World} {F F2 : Foot} {o : Obj} {a2 : Option Addr} {N c2 : Nat} {bs2 : List UInt8} (h3 : ∀ b o, F b o → w0.heap.size ≤ b) (h4 : Below w0.heap.size w0 w)
  (hs : Sl w2 1 F2 a2 N c2 (bytesV bs2)) (hfr : Fr F (w.alloc o) w2) (hgr : Grew (w.alloc o) F F2) (hl : Lies w2 F2) : LocB w0 w2 a2 c2 bs2 ∧ N = bs2.length := by
 have hN := sl_len hs
 subst hN
 refine ⟨⟨F2, hs, hl, fun b i hb => ?_, (h4.alloc h4.size o).trans (hfr.below (by have := h4.size; simp; omega) h3)⟩, rfl⟩
 rcases hgr b i hb with h | h
 ·exact h3 b i h
 ·have := h4.size; simp at h; omega
end Go.Proofs.YtecnijnmgdfdhaaGreat.Rw

namespace Go.Proofs.YtecnijnmgdfdhaaGreat.Rw
open Go.RowKit

structure Rdr (w : World) (g : Nat) (a : Option Addr) (c : Nat) (bs : List UInt8) (at_ : Nat) : Prop where
 b : w.cell? ⟨g, 0, none⟩ = some (.slice a bs.length c)
 i : w.cell? ⟨g, 1, none⟩ = some (.int .i64 (at_ : Int))
 fz : w.frozen? ⟨g, 1, none⟩ = false
 rd : RdB w a c bs
 ne : bs ≠ [] → ∀ x, a = some x → x.block ≠ g
 le : at_ ≤ bs.length
theorem Rd.frb {S : Foot} {w w' : World} {size : Nat} {a : Option Addr} {n c : Nat} {vs : List Value} (h : Rd w size a n c vs) (hf : Fr S w w') (hs : vs ≠ [] → ∀ x, a = some x → ∀ o, ¬ S x.block o) : Rd w' size a n c vs := by
 refine ⟨h.len, h.le, h.cap, h.nil, fun x hx i u hu => ?_, h.one⟩
 have hc := h.cell x hx i u hu
 have hne : vs ≠ [] := by rintro rfl; simp at hu
 have hn := hs hne x hx
 have hbk := addr_add_block x i
 have hsp := World.cell?_spot hc
 generalize x.add i = y at hc hsp hbk ⊢
 obtain ⟨b, o, s⟩ := y
 have : s = none := hsp
 subst this
 have hbk : b = x.block := hbk
 subst hbk
 exact cell_fr hf hc (hn _)
def atF (g : Nat) : Foot := fun k o => k = g ∧ o = 1
section
variable {S : Foot} {w w' : World} {g : Nat} {a : Option Addr} {c : Nat} {bs : List UInt8} {at_ : Nat}
theorem Rdr.fr (h : Rdr w g a c bs at_) (hf : Fr S w w') (h0 : ∀ o, ¬ S g o) (h1 : bs ≠ [] → ∀ x, a = some x → ∀ o, ¬ S x.block o) : Rdr w' g a c bs at_ :=
 ⟨cell_fr hf h.b (h0 _), cell_fr hf h.i (h0 _), (hf.froz _ _ (block_of_cell h.i) (h0 _)).trans h.fz, Rd.frb h.rd hf (fun hne => h1 (by rintro rfl; exact hne rfl)), h.ne, h.le⟩
theorem Rdr.later (h : Rdr w g a c bs at_) (hb : Below w.heap.size w w') : Rdr w' g a c bs at_ := h.fr (Fr.ofBelow hb noCells) (fun _ h => h) (fun _ _ _ _ h => h)
theorem Rdr.put (h : Rdr w g a c bs at_) {n : Nat} (z : Int) (hz : z = (n : Int)) (hn : n ≤ bs.length) : Rdr (w.setCell ⟨g, 1, none⟩ (.int .i64 z)) g a c bs n ∧ Fr (atF g) w (w.setCell ⟨g, 1, none⟩ (.int .i64 z)) := by
 subst hz
 have hf : Fr (atF g) w (w.setCell ⟨g, 1, none⟩ (.int .i64 (n : Int))) := (Fr.refl _ w).setCell (.inl ⟨rfl, rfl⟩) _
 refine ⟨⟨cell_fr hf h.b (fun e => by cases e.2), World.cell?_setCell_same _ _ _ h.i, by rw [World.frozen?_setCell]; exact h.fz, Rd.frb h.rd hf (fun hne x hx o e => h.ne (by rintro rfl; exact hne rfl) x hx e.1), h.ne, hn⟩, hf⟩
theorem atF_trans {w w1 w2 : World} {g : Nat} (h : Fr (atF g) w w1) (k : Fr (atF g) w1 w2) : Fr (atF g) w w2 := h.trans k (fun _ _ h => .inl h)
end
theorem u8_and127 (n : Int) : bits .and .u8 n 127 = n % 128 := by
 have h255 : (BitVec.ofInt 8 127).toNat = 2 ^ 7 - 1 := by decide
 have key : (BitVec.ofInt 8 n &&& BitVec.ofInt 8 127).toNat = (n % ((2 ^ 8 : Nat) : Int)).toNat % 2 ^ 7 := by
  rw [BitVec.toNat_and, BitVec.toNat_ofInt, h255, Nat.and_two_pow_sub_one_eq_mod]
 show IntKind.u8.wrap ((BitVec.ofInt 8 n &&& BitVec.ofInt 8 127).toNat : Nat) = n % 128
 rw [key, IntKind.wrap_u8]
 omega
theorem u64_or (n x s : Nat) (hn : n < 2 ^ s) (hx : n + x * 2 ^ s < 18446744073709551616) : bits .or .u64 (n : Int) ((x * 2 ^ s : Nat) : Int) = ((n + x * 2 ^ s : Nat) : Int) := by
 have key : (BitVec.ofInt 64 (n : Int) ||| BitVec.ofInt 64 ((x * 2 ^ s : Nat) : Int)).toNat = n + x * 2 ^ s := by
  have e1 : (BitVec.ofInt 64 (n : Int)).toNat = n := by rw [BitVec.toNat_ofInt]; omega
  have e2 : (BitVec.ofInt 64 ((x * 2 ^ s : Nat) : Int)).toNat = x * 2 ^ s := by rw [BitVec.toNat_ofInt]; omega
  rw [BitVec.toNat_or, e1, e2, Nat.or_comm, Nat.mul_comm x, ← Nat.two_pow_add_eq_or_of_lt hn x, Nat.add_comm]
 show IntKind.u64.wrap ((BitVec.ofInt 64 (n : Int) ||| BitVec.ofInt 64 ((x * 2 ^ s : Nat) : Int)).toNat : Nat) = _
 rw [key, IntKind.wrap_u64]
 omega
theorem pow7 (k : Nat) : 128 ^ k = 2 ^ (7 * k) := by rw [Nat.pow_mul]
theorem lt_shift {n0 B k s : Nat} (hs : s = 7 * k) (hk : k ≤ 9) (hn : n0 < 2 ^ s) (hB : B < 128) (h9 : k = 9 → B ≤ 1) : n0 + B * 2 ^ s < 18446744073709551616 := by
 have h1 : n0 + B * 2 ^ s < (B + 1) * 2 ^ s := by rw [Nat.add_mul, Nat.one_mul]; omega
 refine Nat.lt_of_lt_of_le h1 ?_
 by_cases h : k = 9
 ·subst h
  subst hs
  exact Nat.le_trans (Nat.mul_le_mul_right _ (show B + 1 ≤ 2 by have := h9 rfl; omega)) (by decide)
 ·have h2 : 2 ^ s ≤ 2 ^ 56 := Nat.pow_le_pow_right (by decide) (by omega)
  exact Nat.le_trans (Nat.mul_le_mul (show B + 1 ≤ 128 by omega) h2) (by decide)
theorem u64_shl (B s : Nat) (h : B * 2 ^ s < 18446744073709551616) : IntKind.u64.wrap ((B : Int) * 2 ^ s) = ((B * 2 ^ s : Nat) : Int) := by
 have e : (B : Int) * 2 ^ s = ((B * 2 ^ s : Nat) : Int) := by push_cast; rfl
 rw [e, IntKind.wrap_u64]
 omega
theorem shl_or {n0 B k s : Nat} (hs : s = 7 * k) (hk : k ≤ 9) (hn : n0 < 2 ^ s) (hB : B < 128) (h9 : k = 9 → B ≤ 1) :
  ∃ X Y : Nat, IntKind.u64.wrap ((B : Int) * 2 ^ s) = (X : Int) ∧ bits .or .u64 (n0 : Int) (X : Int) = (Y : Int) ∧ Y = n0 + B * 128 ^ k ∧ Y < 2 ^ (s + 7) ∧ Y < 18446744073709551616 := by
 have hlt := lt_shift hs hk hn hB h9
 refine ⟨B * 2 ^ s, n0 + B * 2 ^ s, u64_shl B s (by omega), u64_or n0 B s hn hlt, by rw [pow7, hs], ?_, hlt⟩
 have h1 : n0 + B * 2 ^ s < (B + 1) * 2 ^ s := by rw [Nat.add_mul, Nat.one_mul]; omega
 refine Nat.lt_of_lt_of_le h1 ?_
 rw [Nat.pow_add, Nat.mul_comm]
 exact Nat.mul_le_mul_left _ (by omega)
theorem drewN_below (w : World) (n : Nat) : Below w.heap.size w (w.drewN n) := ⟨rfl, rfl, rfl, Nat.le_refl _, fun _ _ => rfl⟩
def ReadsG (w : World) (g : Nat) (a : Option Addr) (c : Nat) (bs : List UInt8) (at_ : Nat) (p : Option (Nat × Nat)) (e : Ending) (w' : World) : Prop :=
 match p with
 | none => ∃ n, e = .returned (.tuple #[.int .u64 0, .int .i64 11]) ∧ Rdr w' g a c bs n ∧ Fr (atF g) w w'
 | some q => e = .returned (.tuple #[.int .u64 (q.1 : Int), .int .i64 0]) ∧ Rdr w' g a c bs (at_ + q.2) ∧ Fr (atF g) w w'
set_option maxRecDepth 100000 in
set_option maxHeartbeats 1000000 in
theorem rGroups_any (g : Nat) (a : Option Addr) (c : Nat) (bs : List UInt8) (at_ : Nat) (hl : bs.length ≤ 1000000) (w : World) (h : Rdr w g a c bs at_) :
  Calls Tryz.prog 165 #[.pointer (some ⟨g, 0, none⟩)] w (ReadsG w g a c bs at_ (Fd.parse 0 (bs.drop at_))) := by
 have HR := Lib.hid h
 clear h
 generalize hp : Fd.parse 0 (bs.drop at_) = P
 have HP := Lib.hid hp
 clear hp
 go_enter Tryz.func165, Tryz.ntmps165
 go_wp2
 go_step3
 go_wp2
 go_step3
 go_wp2
 go_loopw [4, 5] (fun v s wr => ∃ (n0 s0 : Nat), v = .int .u64 (n0 : Int) ∧ s = .int .i64 (s0 : Int) ∧ s0 ≤ 63 ∧ Hid (∃ k, s0 = 7 * k ∧ k ≤ 9 ∧ n0 < 2 ^ s0 ∧ at_ + k ≤ bs.length ∧ Rdr wr g a c bs (at_ + k) ∧ Fr (atF g) w wr ∧ P = Fd.upto n0 k (Fd.parse k (bs.drop (at_ + k))))) (fun _ s _ => 100 - (intOf s).toNat)
 case atStart => exact ⟨0, 0, rfl, rfl, by omega, Lib.hid ⟨0, rfl, by omega, by decide, HR.out.le, HR.out, Fr.refl _ _, by rw [← HP.out, Nat.add_zero]; cases Fd.parse 0 (bs.drop at_) <;> simp [Fd.upto]⟩⟩
 case round =>
  obtain ⟨n0, s0, rfl, rfl, hs63, HS⟩ := hrel
  obtain ⟨wo, rfl⟩ : ∃ wo : World, wo = wr := ⟨_, rfl⟩
  obtain ⟨k, hk, hk9, hn0, hle, hr, hf, hP⟩ := HS.out
  have HA := Lib.hid (And.intro hk (And.intro hn0 (And.intro hr (And.intro hf hP))))
  have r0 := hr.b
  have r1 := hr.i
  have r2 := hr.fz
  clear hk hn0 hr hf hP HS
  by_cases hlt : at_ + k < bs.length
  ·obtain ⟨x, hx⟩ : ∃ x, bs[at_ + k]? = some x := ⟨_, List.getElem?_eq_getElem hlt⟩
   obtain ⟨b, o, rfl, x0⟩ := (show RdB wo a c bs from HA.out.2.2.1.rd).at (at_ + k) x hx
   have HX : Hid (∀ W : World, RdB W (some ⟨b, o, none⟩) c bs → W.cell? ⟨b, o + (at_ + k), none⟩ = some (.int .u8 x.toNat)) := Lib.hid (fun W h => by
    obtain ⟨b', o', e, h2⟩ := h.at (at_ + k) x hx
    cases e
    exact h2)
   have hdrop : bs.drop (at_ + k) = x :: bs.drop (at_ + k + 1) := by
    rw [List.drop_eq_getElem_cons hlt]
    rw [List.getElem?_eq_getElem hlt] at hx
    rw [Option.some.inj hx]
   have HD := Lib.hid hdrop
   generalize hq : at_ + k = q at *
   have HQ := Lib.hid hq
   clear hx hdrop hq
   have q0 : (0 : Int) ≤ (q : Int) := by omega
   have q1 : (q : Int) < (bs.length : Int) := by omega
   go_wp2
   go_quiet (fail)
   have H1 := Lib.hid (And.intro (HA.out.2.2.1.later (drewN_below wo nq)) (atF_trans HA.out.2.2.2.1 (Fr.ofBelow (drewN_below wo nq) (atF g))))
   generalize wo.drewN nq = W1 at *
   clear r0 r1 r2 x0
   have r0 := H1.out.1.b
   have r1 := H1.out.1.i
   have x0 := HX.out W1 H1.out.1.rd
   clear nq
   go_wp2
   go_quiet (fail)
   have H2 := Lib.hid (And.intro (H1.out.1.later (drewN_below W1 nq)) (atF_trans H1.out.2 (Fr.ofBelow (drewN_below W1 nq) (atF g))))
   generalize W1.drewN nq = W2 at *
   clear r0 r1 x0
   have r1 := H2.out.1.i
   have r2 := H2.out.1.fz
   have HW := Lib.hid (Rdr.put H2.out.1 (n := q + 1) ((q : Int) + 1) (by omega) (by omega))
   have hB : x.toNat < 256 := x.toNat_lt
   by_cases hk9' : k = 9
   ·have hs0 : ((s0 : Int) == 63) = true := by have := HA.out.1; simp; omega
    have hs1 : (0 : Int) < (s0 : Int) := by have := HA.out.1; omega
    have hs2 : (s0 : Int) ≤ 63 := by have := HA.out.1; omega
    by_cases hB1 : 1 < x.toNat
    ·have hB2 : (1 : Int) < (x.toNat : Int) := by omega
     have HE : Hid (P = none) := Lib.hid (by rw [HA.out.2.2.2.2, HD.out, Fd.parse_big ⟨hk9', hB1⟩]; rfl)
     clear hB
     go_wp2
     rw [Exit.noGoto_ret]
     go_ret2
     rw [HE.out]
     exact ⟨q + 1, rfl, HW.out.1, atF_trans H2.out.2 HW.out.2⟩
    ·have hB2 : (x.toNat : Int) ≤ 1 := by omega
     by_cases hB0 : x.toNat = 0
     ·have hB3 : ((x.toNat : Int) == 0) = true := by simp [hB0]
      have HB0 := Lib.hid hB0
      clear hB0
      have HE : Hid (P = none) := Lib.hid (by rw [HA.out.2.2.2.2, HD.out, Fd.parse_zero HB0.out (by omega)]; rfl)
      clear hB
      go_wp2
      rw [Exit.noGoto_ret]
      go_ret2
      rw [HE.out]
      exact ⟨q + 1, rfl, HW.out.1, atF_trans H2.out.2 HW.out.2⟩
     ·have hB3 : ((x.toNat : Int) == 0) = false := by simp; omega
      have HB0 := Lib.hid hB0
      obtain ⟨X, Y, e1, e2, e3, e4, e5⟩ := shl_or (n0 := n0) (B := x.toNat) HA.out.1 hk9 HA.out.2.1 (by omega) (fun _ => by omega)
      have HY := Lib.hid (And.intro e3 e5)
      have HE2 : Hid (bits .or .u64 (n0 : Int) (IntKind.u64.wrap ((x.toNat : Int) * 2 ^ s0)) = (Y : Int)) := Lib.hid (by rw [e1, e2])
      have HE : Hid (P = some (Y, 1 + k)) := Lib.hid (by rw [HA.out.2.2.2.2, HD.out, Fd.parse_last (by omega) (by omega) (fun h => HB0.out h.1), e3]; rfl)
      clear e1 e2 e3 e4 e5 hB
      go_wp2
      rw [Exit.noGoto_ret]
      go_ret2
      rw [HE.out]
      refine ⟨?_, by have h := HW.out.1; rwa [show q + 1 = at_ + (1 + k) by have := HQ.out; omega] at h, atF_trans H2.out.2 HW.out.2⟩
      show Ending.returned (.tuple #[.int .u64 _, .int .i64 0]) = _
      rw [HE2.out]
   ·have hs0 : ((s0 : Int) == 63) = false := by have := HA.out.1; simp; omega
    have hs1 : (s0 : Int) ≤ 56 := by have := HA.out.1; omega
    by_cases hB1 : 128 ≤ x.toNat
    ·obtain ⟨X, Y, e1, e2, e3, e4, e5⟩ := shl_or (n0 := n0) (B := x.toNat % 128) HA.out.1 hk9 HA.out.2.1 (Nat.mod_lt _ (by decide)) (fun h => absurd h hk9')
     have hand := u8_and127 (x.toNat : Int)
     have hB2 : (128 : Int) ≤ (x.toNat : Int) := by omega
     have hB3 : (x.toNat : Int) ≤ 255 := by omega
     have HY := Lib.hid (And.intro e3 (And.intro e4 e5))
     have HE2 : Hid (bits .or .u64 (n0 : Int) (IntKind.u64.wrap ((x.toNat : Int) % 128 * 2 ^ s0)) = (Y : Int)) := Lib.hid (by rw [show ((x.toNat : Int) % 128) = ((x.toNat % 128 : Nat) : Int) by omega, e1, e2])
     have HE : Hid (P = Fd.upto Y (k + 1) (Fd.parse (k + 1) (bs.drop (q + 1)))) := Lib.hid (by rw [HA.out.2.2.2.2, HD.out, Fd.parse_more hk9' hB1, Fd.upto_step, e3])
     clear e1 e2 e3 e4 e5 hB
     go_wp2
     go_roundw
     case rel => exact ⟨Y, s0 + 7, by rw [HE2.out], by go_num, by omega, Lib.hid ⟨k + 1, by have := HA.out.1; omega, by omega, HY.out.2.1, by have := HQ.out; omega, by have h := HW.out.1; rwa [show q + 1 = at_ + (k + 1) by have := HQ.out; omega] at h, atF_trans H2.out.2 HW.out.2, by rw [HE.out, show q + 1 = at_ + (k + 1) by have := HQ.out; omega]⟩⟩
     case measure => simp [intOf]; omega
    ·have hB2 : (x.toNat : Int) ≤ 127 := by omega
     by_cases hB0 : x.toNat = 0
     ·have hB3 : ((x.toNat : Int) == 0) = true := by simp [hB0]
      by_cases hk0 : 0 < k
      ·have hs2 : (0 : Int) < (s0 : Int) := by have := HA.out.1; omega
       have HB0 := Lib.hid hB0
       clear hB0
       have HE : Hid (P = none) := Lib.hid (by rw [HA.out.2.2.2.2, HD.out, Fd.parse_zero HB0.out hk0]; rfl)
       clear hB
       go_wp2
       rw [Exit.noGoto_ret]
       go_ret2
       rw [HE.out]
       exact ⟨q + 1, rfl, HW.out.1, atF_trans H2.out.2 HW.out.2⟩
      ·have hs2 : (s0 : Int) ≤ 0 := by have := HA.out.1; omega
       have HB0 := Lib.hid hB0
       clear hB0
       obtain ⟨X, Y, e1, e2, e3, e4, e5⟩ := shl_or (n0 := n0) (B := x.toNat) HA.out.1 hk9 HA.out.2.1 (by omega) (fun h => absurd h hk9')
       have HY := Lib.hid (And.intro e3 e5)
       have HE2 : Hid (bits .or .u64 (n0 : Int) (IntKind.u64.wrap ((x.toNat : Int) * 2 ^ s0)) = (Y : Int)) := Lib.hid (by rw [e1, e2])
       have HE : Hid (P = some (Y, 1 + k)) := Lib.hid (by rw [HA.out.2.2.2.2, HD.out, Fd.parse_last (fun h => hk9' h.1) (by omega) (fun h => hk0 h.2), e3]; rfl)
       clear e1 e2 e3 e4 e5 hB
       go_wp2
       rw [Exit.noGoto_ret]
       go_ret2
       rw [HE.out]
       refine ⟨?_, by have h := HW.out.1; rwa [show q + 1 = at_ + (1 + k) by have := HQ.out; omega] at h, atF_trans H2.out.2 HW.out.2⟩
       show Ending.returned (.tuple #[.int .u64 _, .int .i64 0]) = _
       rw [HE2.out]
     ·have hB3 : ((x.toNat : Int) == 0) = false := by simp; omega
      have HB0 := Lib.hid hB0
      obtain ⟨X, Y, e1, e2, e3, e4, e5⟩ := shl_or (n0 := n0) (B := x.toNat) HA.out.1 hk9 HA.out.2.1 (by omega) (fun h => absurd h hk9')
      have HY := Lib.hid (And.intro e3 e5)
      have HE2 : Hid (bits .or .u64 (n0 : Int) (IntKind.u64.wrap ((x.toNat : Int) * 2 ^ s0)) = (Y : Int)) := Lib.hid (by rw [e1, e2])
      have HE : Hid (P = some (Y, 1 + k)) := Lib.hid (by rw [HA.out.2.2.2.2, HD.out, Fd.parse_last (fun h => hk9' h.1) (by omega) (fun h => HB0.out h.1), e3]; rfl)
      clear e1 e2 e3 e4 e5 hB
      go_wp2
      rw [Exit.noGoto_ret]
      go_ret2
      rw [HE.out]
      refine ⟨?_, by have h := HW.out.1; rwa [show q + 1 = at_ + (1 + k) by have := HQ.out; omega] at h, atF_trans H2.out.2 HW.out.2⟩
      show Ending.returned (.tuple #[.int .u64 _, .int .i64 0]) = _
      rw [HE2.out]
  ·have hq : at_ + k = bs.length := by omega
   have hdn : bs.drop (at_ + k) = [] := by rw [hq, List.drop_length]
   have HE : Hid (P = none) := Lib.hid (by rw [HA.out.2.2.2.2, hdn, Fd.parse_nil]; rfl)
   have HR2 := Lib.hid (And.intro (HA.out.2.2.1.later (drewN_below wo 0)) HA.out.2.2.2.1)
   have HQ := Lib.hid hq
   rw [hq] at r1
   clear hq hdn hlt hle
   go_wp2
   go_quiet (fail)
   have H1 := Lib.hid (And.intro (HA.out.2.2.1.later (drewN_below wo nq)) (atF_trans HA.out.2.2.2.1 (Fr.ofBelow (drewN_below wo nq) (atF g))))
   go_wp2
   rw [Exit.noGoto_ret]
   go_ret2
   rw [HE.out]
   exact ⟨_, rfl, H1.out.1, H1.out.2⟩
end Go.Proofs.YtecnijnmgdfdhaaGreat.Rw

namespace Go.Proofs.YtecnijnmgdfdhaaGreat.Rw
open Go.RowKit
def InnerR (w : World) (g : Nat) (a : Option Addr) (c : Nat) (bs : List UInt8) (v : Value) (err : Int) (at2 : Nat) (e : Ending) (w' : World) : Prop :=
 e = .returned (.tuple #[v, .int .i64 err]) ∧ (∃ m, Rdr w' g a c bs m ∧ (err = 0 → m = at2)) ∧ Fr (atF g) w w'
def OuterR (w : World) (g : Nat) (a : Option Addr) (c : Nat) (bs : List UInt8) (v : Value) (err : Int) (at2 : Nat) (e : Ending) (w' : World) : Prop :=
 e = .returned (.tuple #[v, .int .i64 err]) ∧ Rdr w' g a c bs at2 ∧ Fr (atF g) w w'
theorem back_any (g : Nat) (a : Option Addr) (c : Nat) (bs : List UInt8) (at_ m : Nat) (hle : at_ ≤ bs.length) (w : World) (h : Rdr w g a c bs m) :
  Calls Tryz.prog 164 #[.agg #[.pointer (some ⟨g, 0, none⟩), .int .i64 (at_ : Int)]] w fun e w' => e = .returned (.tuple #[]) ∧ Rdr w' g a c bs at_ ∧ Fr (atF g) w w' := by
 have H2 := Lib.hid (h.put (n := at_) (at_ : Int) rfl hle)
 have r1 := h.i
 have r2 := h.fz
 have r3 : g < w.heap.size := block_of_cell r1
 clear h
 go_enter Tryz.func164, Tryz.ntmps164
 go_wp2
 go_end0
 exact ⟨rfl, H2.out.1.later ((Below.refl _ _).alloc (Nat.le_refl _) _), H2.out.2.alloc _⟩
def iV : Option (Nat × Nat) → Int
 | none => 0
 | some q => Fd.zag q.1
def iE : Option (Nat × Nat) → Int
 | none => 11
 | some _ => 0
def adv : Option (Nat × Nat) → Nat
 | none => 0
 | some q => q.2
theorem u64_and1 (n : Int) : bits .and .u64 n 1 = n % 2 := by
 have h255 : (BitVec.ofInt 64 1).toNat = 2 ^ 1 - 1 := by decide
 have key : (BitVec.ofInt 64 n &&& BitVec.ofInt 64 1).toNat = (n % ((2 ^ 64 : Nat) : Int)).toNat % 2 ^ 1 := by
  rw [BitVec.toNat_and, BitVec.toNat_ofInt, h255, Nat.and_two_pow_sub_one_eq_mod]
 show IntKind.u64.wrap ((BitVec.ofInt 64 n &&& BitVec.ofInt 64 1).toNat : Nat) = n % 2
 rw [key, IntKind.wrap_u64]
 omega
section
variable (g : Nat) (a : Option Addr) (c : Nat) (bs : List UInt8) (at_ : Nat)
set_option maxRecDepth 100000 in
theorem signed_any (hl : bs.length ≤ 1000000) (w : World) (h : Rdr w g a c bs at_) (P : Option (Nat × Nat)) (hP : Fd.parse 0 (bs.drop at_) = P) :
  Calls Tryz.prog 144 #[.pointer (some ⟨g, 0, none⟩)] w (InnerR w g a c bs (.int .i64 (iV P)) (iE P) (at_ + adv P)) := by
 have hg := rGroups_any g a c bs at_ hl w h
 rw [hP] at hg
 have HG := Lib.hid hg
 clear hg h
 cases P with
 | none =>
  clear hP
  go_enter Tryz.func144, Tryz.ntmps144
  go_wp2_with (go_at_call 165; refine HG.out.mono ?_; rintro e w1 ⟨m, rfl, hr, hf⟩; have H1 := Lib.hid (And.intro hr hf); clear hr hf)
  go_ret2
  exact ⟨rfl, ⟨m, H1.out.1, fun h => by cases h⟩, H1.out.2⟩
 | some q =>
  obtain ⟨n, k⟩ := q
  obtain ⟨hn, _⟩ := Fd.parse_at hP
  have hand := u64_and1 (n : Int)
  have n0 : (0 : Int) ≤ (n : Int) := by omega
  have n1 : (n : Int) ≤ 18446744073709551615 := by omega
  clear hP
  by_cases hb : n % 2 = 1
  ·have e1 : iV (some (n, k)) = -1 - (n : Int) / 2 := by show Fd.zag n = _; unfold Fd.zag; rw [if_pos hb]; omega
   have e2 : iE (some (n, k)) = 0 := rfl
   rw [e1, e2]
   have hb1 : ((n : Int) % 2 == 1) = true := by simp; omega
   have n2 : (n : Int) / 2 ≤ 9223372036854775807 := by omega
   have n3 : 0 ≤ (n : Int) / 2 := by omega
   clear e1 e2 hb hn
   go_enter Tryz.func144, Tryz.ntmps144
   go_wp2_with (go_at_call 165; refine HG.out.mono ?_; rintro e w1 ⟨rfl, hr, hf⟩; have H1 := Lib.hid (And.intro hr hf); clear hr hf)
   go_ret2
   exact ⟨rfl, ⟨_, H1.out.1, fun _ => rfl⟩, H1.out.2⟩
  ·have e1 : iV (some (n, k)) = (n : Int) / 2 := by show Fd.zag n = _; unfold Fd.zag; rw [if_neg hb]; omega
   have e2 : iE (some (n, k)) = 0 := rfl
   rw [e1, e2]
   have hb1 : ((n : Int) % 2 == 1) = false := by simp; omega
   have n2 : (n : Int) / 2 ≤ 9223372036854775807 := by omega
   have n3 : 0 ≤ (n : Int) / 2 := by omega
   clear e1 e2 hb hn
   go_enter Tryz.func144, Tryz.ntmps144
   go_wp2_with (go_at_call 165; refine HG.out.mono ?_; rintro e w1 ⟨rfl, hr, hf⟩; have H1 := Lib.hid (And.intro hr hf); clear hr hf)
   go_ret2
   exact ⟨rfl, ⟨_, H1.out.1, fun _ => rfl⟩, H1.out.2⟩
end
end Go.Proofs.YtecnijnmgdfdhaaGreat.Rw

namespace Go.Proofs.YtecnijnmgdfdhaaGreat.Rw
open Go.RowKit
section
variable (g : Nat) (a : Option Addr) (c : Nat) (bs : List UInt8) (at_ : Nat)
theorem readI_ok (v : Value) (at2 : Nat) (w : World) (h : Rdr w g a c bs at_) (hi : Calls Tryz.prog 144 #[.pointer (some ⟨g, 0, none⟩)] w (InnerR w g a c bs v 0 at2)) :
  Calls Tryz.prog 143 #[.pointer (some ⟨g, 0, none⟩), .func (.func 144) #[.pointer (some ⟨g, 0, none⟩)] #[]] w (OuterR w g a c bs v 0 at2) := by
 have HI := Lib.hid hi
 have r1 := h.i
 clear h hi
 go_enter Tryz.func143, Tryz.ntmps143
 go_wp2_with (go_at_call 144; refine HI.out.mono ?_; rintro e w1 ⟨rfl, ⟨m, hr, hm⟩, hf⟩; obtain rfl := hm rfl; have H1 := Lib.hid (And.intro hr hf); clear hr hf hm)
 go_ret2
 exact ⟨rfl, H1.out.1, H1.out.2⟩
theorem readI_no (v : Value) (err : Int) (he : err ≠ 0) (at2 : Nat) (w : World) (h : Rdr w g a c bs at_) (hi : Calls Tryz.prog 144 #[.pointer (some ⟨g, 0, none⟩)] w (InnerR w g a c bs v err at2)) :
  Calls Tryz.prog 143 #[.pointer (some ⟨g, 0, none⟩), .func (.func 144) #[.pointer (some ⟨g, 0, none⟩)] #[]] w (OuterR w g a c bs (.int .i64 0) err at_) := by
 have HI := Lib.hid hi
 have r1 := h.i
 have hle := h.le
 have he' : (err == 0) = false := by simpa using he
 have he2 : (err != 0) = true := by simpa using he
 clear h hi he
 go_enter Tryz.func143, Tryz.ntmps143
 go_wp2_with (first
  | (go_at_call 144; refine HI.out.mono ?_; rintro e w1 ⟨rfl, ⟨m, hr, hm⟩, hf⟩; have H1 := Lib.hid (And.intro hr hf); clear hr hf hm)
  | (go_at_call 164; refine (back_any g a c bs at_ m hle _ H1.out.1).mono ?_; rintro e w2 ⟨rfl, hr, hf⟩; have H2 := Lib.hid (And.intro hr (atF_trans H1.out.2 hf)); clear hr hf))
 go_ret2
 exact ⟨rfl, H2.out.1, H2.out.2⟩
end
end Go.Proofs.YtecnijnmgdfdhaaGreat.Rw

namespace Go.Proofs.YtecnijnmgdfdhaaGreat.Rw
open Go.RowKit
section
variable (g : Nat) (a : Option Addr) (c : Nat) (bs : List UInt8) (at_ : Nat)
theorem left_any (w : World) (h : Rdr w g a c bs at_) (hl : bs.length ≤ 1000000) :
  Calls Tryz.prog 118 #[.pointer (some ⟨g, 0, none⟩)] w fun e w' => e = .returned (.int .i64 ((bs.length : Int) - (at_ : Int))) ∧ ∃ n, w' = w.drewN n := by
 have r0 := h.b
 have r1 := h.i
 have hle := h.le
 clear h
 go_enter Tryz.func118, Tryz.ntmps118
 go_wp2
 go_quiet (fail)
 go_wp2
 go_ret
 exact ⟨rfl, _, rfl⟩
theorem read_any (hl : bs.length ≤ 1000000) (w : World) (h : RdB w a c bs) :
  Calls Tryz.prog 116 #[.slice a bs.length c] w fun e w' => ∃ g a' c', e = .returned (.pointer (some ⟨g, 0, none⟩)) ∧ Rdr w' g a' c' bs 0 ∧ Below w.heap.size w w' ∧ w.heap.size ≤ g := by
 have HC := Lib.hid (clone_any a c bs w h (by omega))
 clear h
 go_enter Tryz.func116, Tryz.ntmps116
 go_wp2_with (go_at_call 129; refine HC.out.mono ?_; rintro e w1 ⟨a1, c1, rfl, hr, hb⟩; have H1 := Lib.hid (And.intro hr hb); clear hr hb)
 go_ret
 obtain ⟨hr, hb⟩ := H1.out
 have hal : Below w1.heap.size w1 (w1.alloc (.cells #[.slice a1 bs.length c1, .int .i64 0] 228)) := (Below.refl _ _).alloc (Nat.le_refl _) _
 refine ⟨w1.heap.size, a1, c1, rfl, ⟨by simp, by simp, by simp, hr.later hal, fun hne x hx => ?_, Nat.zero_le _⟩, hb.trans (hal.mono hb.size), hb.size⟩
 have := Rd.lt hr x hx (bytesV_ne hne)
 omega
def oN (err : Int) (x y : Nat) : Nat := if err = 0 then x else y
theorem rInt_any (hl : bs.length ≤ 1000000) (w : World) (h : Rdr w g a c bs at_) (P : Option (Nat × Nat)) (hP : Fd.parse 0 (bs.drop at_) = P) :
  Calls Tryz.prog 117 #[.pointer (some ⟨g, 0, none⟩)] w (OuterR w g a c bs (.int .i64 (iV P)) (iE P) (oN (iE P) (at_ + adv P) at_)) := by
 have hi := signed_any g a c bs at_ hl w h P hP
 unfold oN
 by_cases he : iE P = 0
 ·rw [he] at hi ⊢
  have HI := Lib.hid (readI_ok g a c bs at_ _ _ w h hi)
  clear h hi hP he
  go_enter Tryz.func117, Tryz.ntmps117
  go_wp2_with (go_at_call 143; refine HI.out.mono ?_; rintro e w1 ⟨rfl, hr, hf⟩; have H1 := Lib.hid (And.intro hr hf); clear hr hf)
  go_ret2
  exact ⟨rfl, H1.out.1, H1.out.2⟩
 ·rw [if_neg he]
  have hz : iV P = 0 := by
   cases P with
   | none => rfl
   | some q => exact absurd rfl he
  rw [hz]
  have HI := Lib.hid (readI_no g a c bs at_ _ _ he _ w h hi)
  clear h hi hP he hz
  generalize iE P = err at *
  go_enter Tryz.func117, Tryz.ntmps117
  go_wp2_with (go_at_call 143; refine HI.out.mono ?_; rintro e w1 ⟨rfl, hr, hf⟩; have H1 := Lib.hid (And.intro hr hf); clear hr hf)
  go_ret2
  exact ⟨rfl, H1.out.1, H1.out.2⟩
end
def tE (l at_ : Nat) (most : Int) : Option (Nat × Nat) → Int
 | none => 11
 | some q => if q.1 < 9223372036854775808 then (if most < q.1 then 23 else if l < at_ + q.2 + q.1 then 11 else 0) else 10
def tV (bs : List UInt8) (at_ : Nat) (most : Int) : Option (Nat × Nat) → List UInt8
 | none => []
 | some q => if tE bs.length at_ most (some q) = 0 then (bs.drop (at_ + q.2)).take q.1 else []
def tA : Option (Nat × Nat) → Nat
 | none => 0
 | some q => q.2 + q.1
section
variable (g : Nat) (a : Option Addr) (c : Nat) (bs : List UInt8) (at_ : Nat) (most : Int)
end
end Go.Proofs.YtecnijnmgdfdhaaGreat.Rw
