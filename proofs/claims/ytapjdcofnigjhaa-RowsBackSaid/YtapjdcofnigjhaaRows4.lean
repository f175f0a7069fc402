/- Package rows: Encode, the document's Encode; numbers and texts of the document. -/
import Derived.Test.YtapjdcofnigjhaaField2
import Derived.Test.YtapjdcofnigjhaaRowsEq
import Derived.Deep.RegionHeld3
namespace Go.Proofs.Ytapjdcofnigjhaa
open Go.RowKit

set_option maxRecDepth 100000 in
theorem refInt (v : Int) (hv : Fd.In v) (w : World) :
    Calls Try.prog 26 #[.int .i64 v] w fun e w' => GivesB w (Fd.grp (Fd.zig v)) e w' := by
  have h1 : -9223372036854775808 ≤ v := hv.1
  have h2 : v ≤ 9223372036854775807 := hv.2
  clear hv
  by_cases hneg : v < 0
  · have hz : Fd.zig v = 2 * (-1 - v).toNat + 1 := by unfold Fd.zig; rw [if_pos hneg]; omega
    have hg := refGroups (-1 - v).toNat 1 (by omega) (by omega) w
    rw [← hz, show (((-1 - v).toNat : Nat) : Int) = -1 - v by omega] at hg
    have HG := Lib.hid hg
    clear hz hg
    go_enter Try.func26, Try.ntmps26
    go_wp2_with (go_at_call 43; refine HG.out.mono ?_; rintro e w1 ⟨a1, c1, rfl, hw1⟩; have HW := Lib.hid hw1; clear hw1)
    go_ret
    exact ⟨_, _, rfl, HW.out⟩
  · have hz : Fd.zig v = 2 * v.toNat + 0 := by unfold Fd.zig; rw [if_neg hneg]; omega
    have hg := refGroups v.toNat 0 (by omega) (by omega) w
    rw [← hz, show ((v.toNat : Nat) : Int) = v by omega] at hg
    have HG := Lib.hid hg
    clear hz hg
    go_enter Try.func26, Try.ntmps26
    go_wp2_with (go_at_call 43; refine HG.out.mono ?_; rintro e w1 ⟨a1, c1, rfl, hw1⟩; have HW := Lib.hid hw1; clear hw1)
    go_ret
    exact ⟨_, _, rfl, HW.out⟩
set_option maxRecDepth 100000 in
theorem refUint (n : Nat) (hn : n < 9223372036854775808) (w : World) :
    Calls Try.prog 25 #[.int .i64 (n : Int)] w fun e w' => GivesB w (Fd.grp n) e w' := by
  have hg := refGroups (n / 2) (n % 2) (by omega) (by omega) w
  rw [show 2 * (n / 2) + n % 2 = n by omega, show ((n / 2 : Nat) : Int) = (n : Int) / 2 by omega, show ((n % 2 : Nat) : Int) = (n : Int) % 2 by omega] at hg
  have HG := Lib.hid hg
  clear hg
  go_enter Try.func25, Try.ntmps25
  go_wp2_with (go_at_call 43; refine HG.out.mono ?_; rintro e w1 ⟨a1, c1, rfl, hw1⟩; have HW := Lib.hid hw1; clear hw1)
  go_ret
  exact ⟨_, _, rfl, HW.out⟩

/-- A row, as bytes. -/
def encR (f : Nat → Int) : Nat → List UInt8
  | 0 => []
  | k + 1 => encR f k ++ Fd.grp (Fd.zig (f k))
def rowF (a0 a1 a2 a3 : Int) : Nat → Int
  | 0 => a0
  | 1 => a1
  | 2 => a2
  | _ => a3
def InR (f : Nat → Int) : Prop := ∀ i, Fd.In (f i)
theorem encR_len {f : Nat → Int} (hf : InR f) (k : Nat) : (encR f k).length ≤ 10 * k := by
  induction k with
  | zero => simp [encR]
  | succ k ih =>
    rw [encR, List.length_append]
    have := Fd.grp_ten (Fd.zig_lt (hf k))
    omega
theorem rowF_in {a0 a1 a2 a3 : Int} (h0 : Fd.In a0) (h1 : Fd.In a1) (h2 : Fd.In a2) (h3 : Fd.In a3) : InR (rowF a0 a1 a2 a3) := by
  intro i
  match i with
  | 0 => exact h0
  | 1 => exact h1
  | 2 => exact h2
  | _ + 3 => exact h3
/-- A row that lies. -/
def RowAt (w : World) (b o : Nat) (f : Nat → Int) : Prop := ∀ i, i < 4 → w.cell? ⟨b, o + i, none⟩ = some (.int .i64 (f i))
theorem RowAt.made (w : World) (a0 a1 a2 a3 : Int) (t : TypeId) : RowAt (w.alloc (.cells #[.int .i64 a0, .int .i64 a1, .int .i64 a2, .int .i64 a3] t)) w.heap.size 0 (rowF a0 a1 a2 a3) := by
  intro i hi
  match i, hi with
  | 0, _ => simp [rowF]
  | 1, _ => simp [rowF]
  | 2, _ => simp [rowF]
  | 3, _ => simp [rowF]
theorem RowAt.later {w w' : World} {b o : Nat} {f : Nat → Int} (h : RowAt w b o f) (hb : Below w.heap.size w w') : RowAt w' b o f := fun i hi => old_cell (h i hi) hb

theorem wpList_app_bloc {P : Program} {w : World} {ops : Array Oper} {rest : List Oper} {o : Oper} {a : Act} {Q : Exit → Act → World → Prop} (hgd : o.guard = none) (s x : Operand) (t : TypeId)
    (ho : o.op = .call { callee := .builtin .append, args := #[s, x], argTypes := #[t, t] })
    (e : TypeId) (i : TypeInfo) (ht : P.underlying t = some (.slice e)) (hi : P.info? e = some i) (hz : i.zero = some (.int .u8 0)) (hsize : i.size = 1) (hby : i.bytes = 1)
    (w0 : World) (a1 : Option Addr) (c : Nat) (bs : List UInt8) (hs : a.eval s = .slice a1 bs.length c) (hown : Loc 1 w0 w a1 bs.length c (bytesV bs))
    (a2 : Option Addr) (c2 : Nat) (cs : List UInt8) (hx : a.eval x = .slice a2 cs.length c2) (hr : RdB w a2 c2 cs) (N : Nat) (hN : bs.length + cs.length = N) (hb : N < 1000000000)
    (h : ∀ a' c' w', Loc 1 w0 w' a' N c' (bytesV (bs ++ cs)) → wpList P ops Q rest (a.put o.dst (.slice a' N c')) w') : wpList P ops Q (o :: rest) a w :=
  wpList_app_loc hgd s x t ho e i (.int .u8 0) 1 1 ht hi hz hsize hby rfl (by decide) w0 a1 bs.length c (bytesV bs) hs hown a2 cs.length c2 (bytesV cs) hx hr
    N (bytesV (bs ++ cs)) hN (bytesV_append bs cs).symm (by unfold maxLen; omega) (by omega) h

set_option maxRecDepth 100000 in
set_option maxHeartbeats 1000000 in
theorem refEncode (a0 a1 a2 a3 : Int) (hf : InR (rowF a0 a1 a2 a3)) (w : World) :
    Calls Try.prog 17 #[rowV a0 a1 a2 a3] w fun e w' => GivesB w (encR (rowF a0 a1 a2 a3) 4) e w' := by
  obtain ⟨i0, hi, hz0, hz1, hz2⟩ := info_parts Try.infoByte
  have HI := Lib.hid (fun n w1 => refInt (rowF a0 a1 a2 a3 n) (hf n) w1)
  have HL := Lib.hid (encR_len hf)
  have HR := Lib.hid (RowAt.made w a0 a1 a2 a3 23)
  have HB := Lib.hid ((Below.refl w.heap.size w).alloc (Nat.le_refl _) (.cells #[.int .i64 a0, .int .i64 a1, .int .i64 a2, .int .i64 a3] 23))
  clear hf
  generalize rowF a0 a1 a2 a3 = f at *
  go_enter Try.func17, Try.ntmps17
  go_wp2
  generalize w.alloc (.cells #[.int .i64 a0, .int .i64 a1, .int .i64 a2, .int .i64 a3] 23) = W at *
  go_loopw [3, 4] (fun s i wr => ∃ (n : Nat) (a : Option Addr) (c : Nat), n ≤ 4 ∧ i = .int .i64 n ∧ s = .slice a (encR f n).length c ∧ Hid (Loc 1 W wr a (encR f n).length c (bytesV (encR f n)))) (fun _ i _ => 4 - (intOf i).toNat)
  case atStart => exact ⟨0, none, 0, by omega, rfl, rfl, Lib.hid (Loc.start 1 W W (Below.refl _ _))⟩
  case round =>
    obtain ⟨n, a, c, hn, rfl, rfl, HS⟩ := hrel
    by_cases hlt : n < 4
    · have hx := (HR.out.later HS.out.low) n hlt
      rw [Nat.zero_add] at hx
      have hl := HL.out (n + 1)
      have hlen : (encR f n).length + (Fd.grp (Fd.zig (f n))).length = (encR f (n + 1)).length := by rw [encR, List.length_append]
      have HLEN := Lib.hid hlen
      clear hlen
      go_wp2_with (first
        | (go_at_call 26; refine (HI.out n _).mono ?_; rintro e w1 ⟨b1, d1, rfl, hrd, hb⟩; have HR1 := Lib.hid hrd; have HS1 := Lib.hid (HS.out.later hb); clear hrd hb)
        | (at_builtin; refine wpList_app_bloc rfl (.tmp 9) (.tmp 13) 25 rfl 5 i0 Try.underlying25 hi hz0 hz1 hz2 W a c (encR f n) rfl HS1.out b1 d1 (Fd.grp (Fd.zig (f n))) rfl HR1.out (encR f (n + 1)).length HLEN.out (by omega) ?_; intro a2 c2 w2 ho; have HO := Lib.hid ho; clear ho))
      go_roundw
      case rel => exact ⟨n + 1, a2, c2, by omega, by go_num, rfl, HO⟩
      case measure => simp [intOf]; omega
    · obtain rfl : n = 4 := by omega
      go_wp2
      go_ret
      exact ⟨a, c, rfl, HS.out.rd, HB.out.trans (HS.out.low.mono HB.out.size)⟩

theorem Wr.made (w : World) (t : TypeId) : Wr (w.alloc (.cells #[.slice none 0 0] t)) w.heap.size noCells none 0 [] :=
  ⟨by simp, by simp, Sl.none_ _ 1, fun _ _ h => h.elim, fun _ h => h⟩

set_option maxRecDepth 100000 in
set_option maxHeartbeats 1000000 in
theorem encode_any (a0 a1 a2 a3 : Int) (hf : InR (rowF a0 a1 a2 a3)) (w : World) :
    Calls Try.prog 16 #[rowV a0 a1 a2 a3] w fun e w' => GivesB w (encR (rowF a0 a1 a2 a3) 4) e w' := by
  have hmf : ∀ (fn : Fn) (first cap : Array Value) (w : World), (Instr.makeFunc fn first cap).run Try.prog w = .ok (.func fn first cap) w := fun _ _ _ _ => rfl
  have HI := Lib.hid (fun n g G a c bs hb w1 hw => wInt_any g G a c bs (rowF a0 a1 a2 a3 n) (hf n) hb w1 hw)
  have HL := Lib.hid (encR_len hf)
  have HR := Lib.hid (RowAt.made w a0 a1 a2 a3 23)
  have HB := Lib.hid ((Below.refl w.heap.size w).alloc (Nat.le_refl _) (.cells #[.int .i64 a0, .int .i64 a1, .int .i64 a2, .int .i64 a3] 23))
  have HZ : Hid ((w.alloc (.cells #[.int .i64 a0, .int .i64 a1, .int .i64 a2, .int .i64 a3] 23)).heap.size = w.heap.size + 1) := Lib.hid (by simp)
  have HW := Lib.hid (Wr.made (w.alloc (.cells #[.int .i64 a0, .int .i64 a1, .int .i64 a2, .int .i64 a3] 23)) 51)
  clear hf
  generalize rowF a0 a1 a2 a3 = f at *
  go_enter Try.func16, Try.ntmps16
  go_wp2
  rw [HZ.out] at HW
  generalize w.alloc (.cells #[.int .i64 a0, .int .i64 a1, .int .i64 a2, .int .i64 a3] 23) = W at *
  have HA := Lib.hid (al1 W (.cells #[.slice none 0 0] 51))
  generalize W.alloc (.cells #[.slice none 0 0] 51) = W2 at *
  go_loopw [7] (fun i wr => ∃ (n : Nat) (a : Option Addr) (c : Nat) (G : Foot), n ≤ 4 ∧ i = .int .i64 n ∧ Hid (Wr wr (w.heap.size + 1) G a c (encR f n) ∧ Fr (wf (w.heap.size + 1) noCells) W2 wr ∧ Grew W2 noCells G)) (fun i _ => 4 - (intOf i).toNat)
  case atStart => exact ⟨0, none, 0, noCells, by omega, rfl, Lib.hid ⟨HW.out, Fr.refl _ _, Grew.refl _ _⟩⟩
  case round =>
    obtain ⟨n, a, c, G, hn, rfl, HS⟩ := hrel
    by_cases hlt : n < 4
    · have hx : wr.cell? ⟨w.heap.size, n, none⟩ = some (.int .i64 (f n)) := by
        have := cell_fr HS.out.2.1 (old_cell ((HR.out n hlt)) HA.out) (S := wf (w.heap.size + 1) noCells) (b := w.heap.size) (o := 0 + n) (fun h => by
          rcases h with h | h
          · omega
          · exact h)
        rwa [Nat.zero_add] at this
      have hl := HL.out n
      have hi4 : (n : Int) < 4 := by omega
      have hi0 : (0 : Int) ≤ (n : Int) := by omega
      go_wp2_with (go_at_call 27; refine (HI.out n _ G a c _ (by omega) _ HS.out.1).mono ?_; rintro e w1 ⟨rfl, hw⟩; have H1 := Lib.hid hw; clear hw)
      obtain ⟨a2, c2, G2, h1⟩ := H1.out
      have H2 := Lib.hid h1
      clear h1
      go_roundw
      case rel => exact ⟨n + 1, a2, c2, G2, by omega, by go_num, Lib.hid ⟨H2.out.1, HS.out.2.1.trans H2.out.2.1 (fun b o h => by
        rcases h with h | h
        · exact .inl (.inl h)
        · rcases HS.out.2.2 b o h with h | h
          · exact h.elim
          · exact .inr h), HS.out.2.2.trans H2.out.2.2 HS.out.2.1.size⟩⟩
      case measure => simp [intOf]; omega
    · obtain rfl : n = 4 := by omega
      have hl := HL.out 4
      have HC := Lib.hid (wBytes_any (w.heap.size + 1) G a c (encR f 4) (by omega) wr HS.out.1)
      have HF := Lib.hid (HS.out.2.1.below (B := w.heap.size) (by have := HB.out.size; have := HA.out.size; omega) (fun b o h => by
        rcases h with h | h
        · omega
        · exact h.elim))
      go_wp2_with (go_at_call 30; refine HC.out.mono ?_; rintro e w1 ⟨a1, c1, rfl, hrd, hb⟩; have H1 := Lib.hid (And.intro hrd hb); clear hrd hb)
      go_ret
      have h0 := HB.out.trans (HA.out.mono HB.out.size)
      have h2 := h0.trans HF.out
      exact ⟨_, _, rfl, H1.out.1, h2.trans (H1.out.2.mono h2.size)⟩
end Go.Proofs.Ytapjdcofnigjhaa
