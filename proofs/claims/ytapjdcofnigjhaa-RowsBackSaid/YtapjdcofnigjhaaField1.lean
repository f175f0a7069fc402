/- Package field: the writer's functions; the document's. -/
import Derived.Test.YtapjdcofnigjhaaProg
import Derived.Test.YtapjdcofnigjhaaMem
import Derived.Test.YtapjdcofnigjhaaFd
import Derived.Handy
import Derived.Deep.LoopGhost
import Derived.Lib.Strings
namespace Go.Proofs.Ytapjdcofnigjhaa
open Go.RowKit

theorem u64_and127 (n : Int) : bits .and .u64 n 127 = n % 128 := by
  have h255 : (BitVec.ofInt 64 127).toNat = 2 ^ 7 - 1 := by decide
  have key : (BitVec.ofInt 64 n &&& BitVec.ofInt 64 127).toNat = (n % ((2 ^ 64 : Nat) : Int)).toNat % 2 ^ 7 := by
    rw [BitVec.toNat_and, BitVec.toNat_ofInt, h255, Nat.and_two_pow_sub_one_eq_mod]
  show IntKind.u64.wrap ((BitVec.ofInt 64 n &&& BitVec.ofInt 64 127).toNat : Nat) = n % 128
  rw [key, IntKind.wrap_u64]
  omega
theorem u8_or128 (n : Int) (h0 : 0 ≤ n) (h : n < 128) : bits .or .u8 n 128 = n + 128 := by
  obtain ⟨m, rfl⟩ : ∃ m : Nat, n = m := ⟨n.toNat, by omega⟩
  have key : (BitVec.ofInt 8 (m : Int) ||| BitVec.ofInt 8 128).toNat = 128 + m := by
    have e1 : (BitVec.ofInt 8 (m : Int)).toNat = m := by rw [BitVec.toNat_ofInt]; omega
    have e2 : (BitVec.ofInt 8 128).toNat = 128 := by decide
    rw [BitVec.toNat_or, e1, e2, Nat.or_comm]
    exact (Nat.two_pow_add_eq_or_of_lt (i := 7) (by omega) 1).symm
  show IntKind.u8.wrap ((BitVec.ofInt 8 (m : Int) ||| BitVec.ofInt 8 128).toNat : Nat) = _
  rw [key, IntKind.wrap_u8]
  omega

theorem Try.infoByte : (Try.prog.info? 5).map (fun i => (i.zero, i.size, i.bytes)) = some (some (.int .u8 0), 1, 1) := by kernel_rfl

/-- A writer in block g: what it has written. -/
structure Wr (w : World) (g : Nat) (G : Foot) (a : Option Addr) (c : Nat) (bs : List UInt8) : Prop where
  cell : w.cell? ⟨g, 0, none⟩ = some (.slice a bs.length c)
  froz : w.frozen? ⟨g, 0, none⟩ = false
  sl : Sl w 1 G a bs.length c (bytesV bs)
  lies : Lies w G
  ne : ∀ o, ¬ G g o
/-- Its cells. -/
def wf (g : Nat) (G : Foot) : Foot := fun b o => b = g ∨ G b o
theorem Wr.fr {S : Foot} {w w' : World} {g : Nat} {G : Foot} {a : Option Addr} {c : Nat} {bs : List UInt8} (h : Wr w g G a c bs) (hf : Fr S w w') (hd : Apart (wf g G) S) : Wr w' g G a c bs :=
  ⟨cell_fr hf h.cell (hd _ _ (.inl rfl)), (hf.froz _ _ (block_of_cell h.cell) (hd _ _ (.inl rfl))).trans h.froz, h.sl.fr hf (fun b o hb => hd b o (.inr hb)), h.lies.later hf, h.ne⟩
theorem Wr.later {w w' : World} {g : Nat} {G : Foot} {a : Option Addr} {c : Nat} {bs : List UInt8} (h : Wr w g G a c bs) (hb : Below w.heap.size w w') : Wr w' g G a c bs :=
  h.fr (Fr.ofBelow hb noCells) (fun _ _ _ h => h)
/-- What a call of a writer leaves: more bytes. -/
def Writes (w : World) (g : Nat) (G : Foot) (bs : List UInt8) (w' : World) : Prop := ∃ a c G', Wr w' g G' a c bs ∧ Fr (wf g G) w w' ∧ Grew w G G'

/-- What the writer's append leaves. -/
theorem Wr.app {w wr w2 : World} {g : Nat} {G G' F2 : Foot} {a' a2 : Option Addr} {c' c2 N : Nat} {bs' bs2 : List UInt8} {o : Obj} (h : Wr wr g G' a' c' bs') (hf : Fr (wf g G) w wr) (hg : Grew w G G')
    (hs : Sl w2 1 F2 a2 N c2 (bytesV bs2)) (hfr : Fr G' (wr.alloc o) w2) (hgr : Grew (wr.alloc o) G' F2) (hl : Lies w2 F2) (hgw : g < w.heap.size) :
    w2.cell? ⟨g, 0, none⟩ = some (.slice a' bs'.length c') ∧ w2.frozen? ⟨g, 0, none⟩ = false ∧
    Wr (w2.setCell ⟨g, 0, none⟩ (.slice a2 N c2)) g F2 a2 c2 bs2 ∧ Fr (wf g G) w (w2.setCell ⟨g, 0, none⟩ (.slice a2 N c2)) ∧ Grew w G F2 := by
  have hlt := block_of_cell h.cell
  have hN := sl_len hs
  subst hN
  have h1 := h.fr ((Fr.refl noCells wr).alloc o) (fun _ _ _ h => h)
  have h2 : w2.cell? ⟨g, 0, none⟩ = some (.slice a' bs'.length c') := cell_fr hfr h1.cell (h.ne 0)
  have h3 : w2.frozen? ⟨g, 0, none⟩ = false := (hfr.froz _ _ (block_of_cell h1.cell) (h.ne 0)).trans h1.froz
  have hne : ∀ o, ¬ F2 g o := fun o hg2 => by
    rcases hgr g o hg2 with h4 | h4
    · exact h.ne o h4
    · have := block_of_cell h1.cell; simp only at this; omega
  have hg2 : Grew w G F2 := hg.trans (w1 := wr) (fun b o hb => by
    rcases hgr b o hb with h4 | h4
    · exact .inl h4
    · rw [World.size_alloc] at h4; exact .inr (by omega)) hf.size
  have hfw : Fr (wf g G) w w2 := (hf.alloc o).trans hfr (fun b o hb => by
    rcases hg b o hb with h4 | h4
    · exact .inl (.inr h4)
    · exact .inr h4)
  have hst : Fr (fun k i => k = g ∧ i = 0) w2 (w2.setCell ⟨g, 0, none⟩ (.slice a2 bs2.length c2)) := (Fr.refl _ w2).setCell (.inl ⟨rfl, rfl⟩) _
  refine ⟨h2, h3, ⟨World.cell?_setCell_same _ _ _ h2, by simpa using h3, hs.fr hst (fun b o hb ⟨e1, _⟩ => hne o (e1 ▸ hb)), hl.later hst, hne⟩, hfw.setCell (.inl (.inl rfl)) _, hg2⟩

set_option maxRecDepth 100000 in
set_option maxHeartbeats 1000000 in
theorem groups_any (g : Nat) (G : Foot) (a : Option Addr) (c : Nat) (bs : List UInt8) (n : Nat) (hn : n < 18446744073709551616) (hb : bs.length ≤ 1000000) (w : World) (hw : Wr w g G a c bs) :
    Calls Try.prog 42 #[.pointer (some ⟨g, 0, none⟩), .int .u64 n] w fun e w' => e = .returned (.tuple #[]) ∧ Writes w g G (bs ++ Fd.grp n) w' := by
  obtain ⟨i0, hi, hz0, hz1, hz2⟩ := info_parts Try.infoByte
  have hgw : g < w.heap.size := block_of_cell hw.cell
  have HW := Lib.hid hw
  have hten := Fd.grp_ten hn
  clear hw
  go_enter Try.func42, Try.ntmps42
  go_wp2
  go_loopw [1] (fun v wr => ∃ (m : Nat) (a' : Option Addr) (c' : Nat) (G' : Foot) (bs' : List UInt8), v = .int .u64 m ∧ m < 18446744073709551616 ∧ bs'.length ≤ 1000010 ∧
    Hid (Wr wr g G' a' c' bs' ∧ bs' ++ Fd.grp m = bs ++ Fd.grp n ∧ Fr (wf g G) w wr ∧ Grew w G G')) (fun v _ => (intOf v).toNat)
  case atStart => exact ⟨n, a, c, G, bs, rfl, hn, by omega, Lib.hid ⟨HW.out, rfl, Fr.refl _ _, Grew.refl _ _⟩⟩
  case round =>
    obtain ⟨m, a', c', G', bs', rfl, hm, hbl, HR⟩ := hrel
    have hcell := HR.out.1.cell
    have hfro := HR.out.1.froz
    have hbl9 : bs'.length < 1000000000 := by omega
    by_cases hlt : m < 128
    · have hm256 : m < 256 := by omega
      go_wp2_with (at_builtin; refine wpList_app_byte rfl (.tmp 25) (.tmp 28) 25 rfl 5 i0 Try.underlying25 hi hz0 hz1 hz2 G' a' c' bs' rfl HR.out.1.sl HR.out.1.lies (m : Int) m rfl hm256 rfl hbl9 ?_; intro a2 c2 w2 F2 hsl hfr hgr hli; have HA := Lib.hid (HR.out.1.app HR.out.2.2.1 HR.out.2.2.2 hsl hfr hgr hli hgw); have f1 := HA.out.1; have f2 := HA.out.2.1; clear hsl hfr hgr hli hcell hfro)
      go_end0
      have hd : bs' ++ [UInt8.ofNat m] = bs ++ Fd.grp n := by rw [← Fd.grp_small hlt]; exact HR.out.2.1
      rw [← hd]
      exact ⟨rfl, _, _, _, HA.out.2.2.1, HA.out.2.2.2.1, HA.out.2.2.2.2⟩
    · have hand := u64_and127 (m : Int)
      have hor := u8_or128 ((m : Int) % 128) (by omega) (by omega)
      have HM : Hid ((m : Int) % 128 + 128 = ((m % 128 + 128 : Nat) : Int)) := Lib.hid (by omega)
      have hm256 : m % 128 + 128 < 256 := by omega
      go_wp2_with (at_builtin; refine wpList_app_byte rfl (.tmp 10) (.tmp 15) 25 rfl 5 i0 Try.underlying25 hi hz0 hz1 hz2 G' a' c' bs' rfl HR.out.1.sl HR.out.1.lies ((m : Int) % 128 + 128) (m % 128 + 128) HM.out hm256 rfl hbl9 ?_; intro a2 c2 w2 F2 hsl hfr hgr hli; have HA := Lib.hid (HR.out.1.app HR.out.2.2.1 HR.out.2.2.2 hsl hfr hgr hli hgw); have f1 := HA.out.1; have f2 := HA.out.2.1; clear hsl hfr hgr hli hcell hfro)
      have hacc : (bs' ++ [UInt8.ofNat (m % 128 + 128)]) ++ Fd.grp (m / 128) = bs ++ Fd.grp n := by
        rw [← HR.out.2.1, Fd.grp_big (n := m) (by omega), List.append_assoc]; rfl
      have hl : (bs' ++ [UInt8.ofNat (m % 128 + 128)]).length ≤ 1000010 := by
        have h1 := congrArg List.length hacc
        have h2 := Fd.grp_pos (m / 128)
        simp only [List.length_append] at h1 h2 ⊢
        omega
      have HC := Lib.hid hacc
      clear hacc
      go_roundw
      case rel => exact ⟨m / 128, a2, c2, F2, _, by go_num, by omega, hl, Lib.hid ⟨HA.out.2.2.1, HC.out, HA.out.2.2.2.1, HA.out.2.2.2.2⟩⟩
      case measure => simp [intOf]; omega
end Go.Proofs.Ytapjdcofnigjhaa
