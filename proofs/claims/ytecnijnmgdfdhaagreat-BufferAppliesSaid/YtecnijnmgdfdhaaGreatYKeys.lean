/- Joined: KeysWalks, KeysWalks2, KeysWalks3, KeysWalks4, KeysWalks5, KeysGet, KeysGet2, KeysClone, KeysGet3. -/
import Derived.Test.YtecnijnmgdfdhaaGreatProg
import Derived.Test.YtecnijnmgdfdhaaGreatYKit
import Derived.Handy
import Derived.Lib.Strings
import Derived.Deep.RegionHeld3
import Derived.Deep.QuietTactic
import Derived.BigQuiet
import Derived.Laws.StructEq
import Derived.Lib.UnsafeStr
import Derived.Lib.BufferWrite
/- The walks of package keys: what each function computes. -/
namespace Go.Proofs.YtecnijnmgdfdhaaGreat.Ks
open Go.RowKit

theorem spread_num (v : Int) (hv : Ky.In v) : IntKind.u64.wrap (IntKind.u64.wrap v + 9223372036854775808) = (Ky.nat v : Int) := by
  unfold Ky.In at hv
  unfold Ky.nat
  simp only [IntKind.wrap_u64]
  omega
theorem enc_cells (v : Int) : #[Value.int .u8 ((Ky.nat v : Int) / 256 / 256 / 256 / 256 / 256 / 256 / 256 % 256), .int .u8 ((Ky.nat v : Int) / 256 / 256 / 256 / 256 / 256 / 256 % 256), .int .u8 ((Ky.nat v : Int) / 256 / 256 / 256 / 256 / 256 % 256), .int .u8 ((Ky.nat v : Int) / 256 / 256 / 256 / 256 % 256), .int .u8 ((Ky.nat v : Int) / 256 / 256 / 256 % 256), .int .u8 ((Ky.nat v : Int) / 256 / 256 % 256), .int .u8 ((Ky.nat v : Int) / 256 % 256), .int .u8 ((Ky.nat v : Int) % 256)] = (bytesV (Ky.enc v)).toArray := by
  simp [bytesV, Ky.enc, Ky.be]

set_option maxRecDepth 100000 in
set_option maxHeartbeats 1000000 in
theorem spread_any (v : Int) (hv : Ky.In v) (w : World) :
    Calls Tryz.prog 121 #[.int .i64 v] w fun e w' => e = .returned (.agg (bytesV (Ky.enc v)).toArray) ∧ Below w.heap.size w w' := by
  rw [← enc_cells]
  have hnum := spread_num v hv
  go_enter Tryz.func121, Tryz.ntmps121
  clear hnum
  go_wp2
  rw [spread_num v hv]
  have hand := u64_and255
  refine wp_loop_rounds 9 ?_
  repeat any_goals (rw [rounds_succ]; go_wp2)
  go_returns
  exact ⟨rfl, ((Below.refl _ _).alloc (Nat.le_refl _) _).alloc (by simp) _⟩

theorem eight_of {l : List UInt8} (h : l.length = 8) : ∃ a b c d e f g i, l = [a, b, c, d, e, f, g, i] := by
  match l, h with
  | [a, b, c, d, e, f, g, i], _ => exact ⟨a, b, c, d, e, f, g, i, rfl⟩

theorem eight_made (w : World) (b0 b1 b2 b3 b4 b5 b6 b7 : UInt8) (t : TypeId) (fr : Nat × Nat) : Rd (w.alloc (.cells #[.int .u8 b0.toNat, .int .u8 b1.toNat, .int .u8 b2.toNat, .int .u8 b3.toNat, .int .u8 b4.toNat, .int .u8 b5.toNat, .int .u8 b6.toNat, .int .u8 b7.toNat] t fr)) 1 (some ⟨w.heap.size, 0, none⟩) 8 8 (bytesV [b0, b1, b2, b3, b4, b5, b6, b7]) :=
  Rd.made w (bytesV [b0, b1, b2, b3, b4, b5, b6, b7]) t 1 8 rfl (by decide) (bytesV_one _) fr

set_option maxRecDepth 100000 in
set_option maxHeartbeats 1000000 in
theorem prefix_any (v : Int) (hv : Ky.In v) (w : World) :
    Calls Tryz.prog 86 #[.int .i64 v] w fun e w' => e = .returned (.string ⟨(Ky.enc v).toArray⟩) ∧ Below w.heap.size w w' := by
  have hs := spread_any v hv w
  obtain ⟨b0, b1, b2, b3, b4, b5, b6, b7, he⟩ := eight_of (Ky.enc_length v)
  rw [he] at hs ⊢
  have HS := Lib.hid hs
  clear hs he
  go_enter Tryz.func86, Tryz.ntmps86
  go_wp2_with (go_at_call 121; refine HS.out.mono ?_; rintro e w1 ⟨rfl, hb1⟩; simp only [bytesV, List.map_cons, List.map_nil])
  rw [run_bytes_str Tryz.underlying129 Tryz.underlying5 Tryz.underlying9 (eight_made w1 b0 b1 b2 b3 b4 b5 b6 b7 _ _)]
  go_wp2
  go_ret
  exact ⟨rfl, hb1.alloc hb1.size _⟩

theorem list_of (a : List UInt8) : (⟨a.toArray⟩ : ByteArray).toList = a := by rw [Lib.toList_data]
theorem str_lss (t : TypeId) (a b : List UInt8) : binOp .lss t (.string ⟨a.toArray⟩) (.string ⟨b.toArray⟩) = pure (.bool (Op.bytesLess a b)) := by
  simp [binOp, Op.stringOp, list_of]
theorem str_gtr (t : TypeId) (a b : List UInt8) : binOp .gtr t (.string ⟨a.toArray⟩) (.string ⟨b.toArray⟩) = pure (.bool (Op.bytesLess b a)) := by
  have h : (!(Op.bytesLess a b || a == b)) = Op.bytesLess b a := by
    rcases Ky.less_trich a b with h | h | h
    · subst h; simp [Ky.less_self]
    · simp [h, Ky.less_asymm h]
    · have hne : (a == b) = false := by
        rw [beq_eq_false_iff_ne]; rintro rfl; rw [Ky.less_self] at h; cases h
      simp [h, Ky.less_asymm h, hne]
  simp only [binOp, Op.stringOp, list_of, h]
theorem str_geq (t : TypeId) (a b : List UInt8) : binOp .geq t (.string ⟨a.toArray⟩) (.string ⟨b.toArray⟩) = pure (.bool (!Op.bytesLess a b)) := by
  simp [binOp, Op.stringOp, list_of]
theorem str_eql (t : TypeId) (a b : List UInt8) : binOp .eql t (.string ⟨a.toArray⟩) (.string ⟨b.toArray⟩) = pure (.bool (a == b)) := by
  simp [binOp, Op.stringOp, list_of]
/-- '+' of two texts. -/
theorem cat_run (t : TypeId) (a b : List UInt8) (h : a.length + b.length ≤ 9223372036854775807) : binOp .add t (.string ⟨a.toArray⟩) (.string ⟨b.toArray⟩) = pure (.string ⟨(a ++ b).toArray⟩) := by
  have hsz : ∀ l : List UInt8, (⟨l.toArray⟩ : ByteArray).size = l.length := fun l => by simp [ByteArray.size]
  have happ : (⟨a.toArray⟩ : ByteArray) ++ ⟨b.toArray⟩ = ⟨(a ++ b).toArray⟩ := by
    apply ByteArray.ext
    simp
  have hm : IntKind.i64.max = 9223372036854775807 := by decide
  simp only [binOp, Op.stringOp, hsz, hm, happ]
  rw [if_neg (by omega)]
/-- Is a text a key? -/
def okKey (k : List UInt8) : Bool := decide (1 ≤ k.length ∧ k.length ≤ 16)
/-- What Check answers. -/
def chk (k : List UInt8) : Int := if okKey k then 0 else 13

set_option maxHeartbeats 400000 in
theorem check_any (k : List UInt8) (w : World) :
    Calls Tryz.prog 60 #[.string ⟨k.toArray⟩] w fun e w' => e = .returned (.int .i64 (chk k)) ∧ w = w' := by
  by_cases h1 : k.length < 1
  · have hc : chk k = 13 := by unfold chk okKey; simp; omega
    rw [hc]
    clear hc
    go_enter Tryz.func60, Tryz.ntmps60
    go_wp2
    go_ret
    exact ⟨rfl, rfl⟩
  by_cases h2 : 16 < k.length
  · have hc : chk k = 13 := by unfold chk okKey; simp; omega
    rw [hc]
    clear hc
    go_enter Tryz.func60, Tryz.ntmps60
    go_wp2
    go_ret
    exact ⟨rfl, rfl⟩
  · have hc : chk k = 0 := by unfold chk okKey; simp; omega
    rw [hc]
    clear hc
    go_enter Tryz.func60, Tryz.ntmps60
    go_wp2
    go_ret
    exact ⟨rfl, rfl⟩

set_option maxHeartbeats 400000 in
theorem put_good (v : Int) (hv : Ky.In v) (k : List UInt8) (w : World) (h : okKey k = true) :
    Calls Tryz.prog 91 #[.agg #[.int .i64 v, .string ⟨k.toArray⟩]] w fun e w' => e = .returned (.tuple #[.string ⟨(Ky.put v k).toArray⟩, .int .i64 0]) ∧ Below w.heap.size w w' := by
  have hc : chk k = 0 := by unfold chk; rw [h]; rfl
  have HC := Lib.hid hc
  have hk16 : k.length ≤ 16 := by unfold okKey at h; simp at h; omega
  have hcat : binOp .add 9 (.string ⟨(Ky.enc v).toArray⟩) (.string ⟨k.toArray⟩) = pure (.string ⟨(Ky.put v k).toArray⟩) := cat_run _ _ _ (by rw [Ky.enc_length]; omega)
  clear hc h
  go_enter Tryz.func91, Tryz.ntmps91
  go_wp2_with (go_at_call 60; refine (check_any k _).mono ?_; rintro e w' ⟨rfl, rfl⟩; rw [HC.out])
  have hb0 := (Below.refl w.heap.size w).alloc (Nat.le_refl _) (.cells #[.int .i64 v, .string ⟨k.toArray⟩] 119)
  have c0 : (w.alloc (.cells #[.int .i64 v, .string ⟨k.toArray⟩] 119)).cell? ⟨w.heap.size, 0, none⟩ = some (.int .i64 v) := by simp
  have c1 : (w.alloc (.cells #[.int .i64 v, .string ⟨k.toArray⟩] 119)).cell? ⟨w.heap.size, 1, none⟩ = some (.string ⟨k.toArray⟩) := by simp
  have HB0 := Lib.hid hb0
  have C0 := Lib.hid c0
  have C1 := Lib.hid c1
  clear hb0 c0 c1
  generalize w.alloc (.cells #[.int .i64 v, .string ⟨k.toArray⟩] 119) = W0 at *
  go_region_held3 (fun W => W.cell? ⟨w.heap.size, 0, none⟩ = some (.int .i64 v) ∧ W.cell? ⟨w.heap.size, 1, none⟩ = some (.string ⟨k.toArray⟩))
    (first | exact ⟨C0.out, C1.out⟩ | exact ⟨old_cell C0.out HB1.out, old_cell C1.out HB1.out⟩)
    (first | (go_at_call 86; refine (prefix_any v hv _).mono ?_; rintro e w1 ⟨rfl, hb1⟩; have HB1 := Lib.hid ((Below.refl W0.heap.size W0).drew.trans hb1); clear hb1))
  go_wp2
  go_ret2
  exact ⟨rfl, HB0.out.trans (HB1.out.mono HB0.out.size)⟩
end Go.Proofs.YtecnijnmgdfdhaaGreat.Ks

/- The walks of package keys, second part: orders. -/
namespace Go.Proofs.YtecnijnmgdfdhaaGreat.Ks
open Go.RowKit

theorem nanStr (x : List UInt8) (w : World) : Calls Tryz.prog 141 #[.string ⟨x.toArray⟩] w fun e w' => e = .returned (.bool false) ∧ w = w' := by
  go_enter Tryz.func141, Tryz.ntmps141
  go_wp2
  go_ret
  exact ⟨rfl, rfl⟩
theorem cmpStr (x y : List UInt8) (w : World) : Calls Tryz.prog 113 #[.string ⟨x.toArray⟩, .string ⟨y.toArray⟩] w fun e w' => e = .returned (.int .i64 (Ky.cmpS x y)) ∧ w = w' := by
  have hg := str_gtr 9 x y
  have hl := str_lss 9 x y
  rcases Ky.less_trich x y with h | h | h
  · subst h
    rw [Ky.cmpS_self]
    have h := Ky.less_self x
    go_enter Tryz.func113, Tryz.ntmps113
    go_wp2_with (go_at_call 141; refine (nanStr _ _).mono ?_; rintro e w' ⟨rfl, rfl⟩)
    go_ret
    exact ⟨rfl, rfl⟩
  · have hc : Ky.cmpS x y = -1 := by unfold Ky.cmpS; rw [if_pos h]
    rw [hc]
    clear hc
    go_enter Tryz.func113, Tryz.ntmps113
    go_wp2_with (go_at_call 141; refine (nanStr _ _).mono ?_; rintro e w' ⟨rfl, rfl⟩)
    go_ret
    exact ⟨rfl, rfl⟩
  · have h2 := Ky.less_asymm h
    have hc : Ky.cmpS x y = 1 := by unfold Ky.cmpS; rw [if_neg (by rw [h2]; decide), if_pos h]
    rw [hc]
    clear hc
    go_enter Tryz.func113, Tryz.ntmps113
    go_wp2_with (go_at_call 141; refine (nanStr _ _).mono ?_; rintro e w' ⟨rfl, rfl⟩)
    go_ret
    exact ⟨rfl, rfl⟩

end Go.Proofs.YtecnijnmgdfdhaaGreat.Ks

/- The walks of package keys, third part: Compare, the checker's and the package's. -/
namespace Go.Proofs.YtecnijnmgdfdhaaGreat.Ks
open Go.RowKit

/-- '==' of two entries. -/
@[go_sem] theorem eqEntry (v : Int) (s : ByteArray) (x : Int) (t : ByteArray) (w : World) : (Op.equalIn 10000 119 (.agg #[.int .i64 v, .string s]) (.agg #[.int .i64 x, .string t])).run Tryz.prog w = .ok (v == x && s.toList == t.toList) w := by
  have u3 := Tryz.underlying3
  have a3 := Tryz.isAgg3
  have z3 := Tryz.sizeOf3
  have u9 := Tryz.underlying9
  have a9 := Tryz.isAgg9
  have z9 := Tryz.sizeOf9
  have hS : Tryz.prog.underlying 119 = some (.struct (Tryz.prog.fieldsOf 119)) := by kernel_rfl
  have hp : Tryz.prog.stoodInHeld 119 = false := by kernel_rfl
  rw [show (10000 : Nat) = 9999 + 1 from rfl, run_equalIn_agg w 9999 119 _ _ hS hp]
  simp only [Program.fieldsOf, Tryz.underlying119]
  go_simp
  by_cases h1 : v = x <;> by_cases h2 : s.toList = t.toList <;> simp [h1, h2]
theorem al1 (w : World) (o : Obj) : Below w.heap.size w (w.alloc o) := (Below.refl _ _).alloc (Nat.le_refl _) _
/-- An entry, as a value. -/
abbrev entV (v : Int) (s : List UInt8) : Value := .agg #[.int .i64 v, .string ⟨s.toArray⟩]

end Go.Proofs.YtecnijnmgdfdhaaGreat.Ks

/- The walks of package keys, fourth part: the checker's Compare, Bounds, awake. -/
namespace Go.Proofs.YtecnijnmgdfdhaaGreat.Ks
open Go.RowKit

theorem split_at {s : List UInt8} {k : Nat} {a : UInt8} (h : s[k]? = some a) : s = s.take k ++ a :: s.drop (k + 1) := by
  obtain ⟨hk, rfl⟩ := List.getElem?_eq_some_iff.1 h
  rw [← List.drop_eq_getElem_cons hk, List.take_append_drop]
end Go.Proofs.YtecnijnmgdfdhaaGreat.Ks

/- The walks of package keys, fifth part: Bounds, awake. -/
namespace Go.Proofs.YtecnijnmgdfdhaaGreat.Ks
open Go.RowKit

end Go.Proofs.YtecnijnmgdfdhaaGreat.Ks

/- gather: eight bytes as a number. -/
namespace Go.Proofs.YtecnijnmgdfdhaaGreat.Ks
open Go.RowKit

theorem u64_or (n b : Nat) (hb : b < 256) (h : 256 * n + b < 18446744073709551616) : bits .or .u64 ((n : Int) * 256) (b : Int) = ((256 * n + b : Nat) : Int) := by
  have e1 : (BitVec.ofInt 64 ((n : Int) * 256)).toNat = 256 * n := by rw [BitVec.toNat_ofInt]; omega
  have e2 : (BitVec.ofInt 64 (b : Int)).toNat = b := by rw [BitVec.toNat_ofInt]; omega
  have key : (BitVec.ofInt 64 ((n : Int) * 256) ||| BitVec.ofInt 64 (b : Int)).toNat = 256 * n + b := by
    rw [BitVec.toNat_or, e1, e2]
    exact (Nat.two_pow_add_eq_or_of_lt (i := 8) hb n).symm
  show IntKind.u64.wrap ((BitVec.ofInt 64 ((n : Int) * 256) ||| BitVec.ofInt 64 (b : Int)).toNat : Nat) = _
  rw [key, IntKind.wrap_u64]
  omega

end Go.Proofs.YtecnijnmgdfdhaaGreat.Ks

/- Get: what is no key's entry; the cut of a text. -/
namespace Go.Proofs.YtecnijnmgdfdhaaGreat.Ks
open Go.RowKit

end Go.Proofs.YtecnijnmgdfdhaaGreat.Ks

/- strings.Clone: the same text (turned from the shelf's worked proof of internal/stringslite.Clone). -/
namespace Go.Proofs.YtecnijnmgdfdhaaGreat.Ks
open Go.RowKit

theorem Tryz.infoByte : (Tryz.prog.info? 5).map (fun i => (i.zero, i.size, i.bytes)) = some (some (.int .u8 0), 1, 1) := by kernel_rfl
set_option maxHeartbeats 4000000 in
set_option maxRecDepth 100000 in
theorem sliteClone (s : ByteArray) (w : World) (hlim : s.size ≤ 281474976710656) :
    Calls Tryz.prog 153 #[.string s] w fun e w' => e = .returned (.string s) ∧ Below w.heap.size w w' := by
  by_cases h0 : s.size = 0
  · have hs : s = ⟨#[]⟩ := by
      apply ByteArray.ext
      exact Array.eq_empty_of_size_eq_zero h0
    subst hs
    go_enter Tryz.func153, Tryz.ntmps153
    go_wp2
    go_ret
    exact ⟨rfl, Below.refl _ _⟩
  · obtain ⟨i0, hi, hz0, hz1, hz2⟩ := info_parts Tryz.infoByte
    have hinfo : (Tryz.prog.info? 5).map (·.size) = some 1 := by rw [hi]; simp [hz1]
    have hco : Tryz.prog.cellsOf 5 = 1 := by simp [Program.cellsOf, hi, hz1]
    obtain ⟨M, hM⟩ : ∃ M, M = madeCells (Value.int .u8 0).cells (((s.size : Nat) : Int).toNat * i0.size) := ⟨_, rfl⟩
    have hMs : M.size = s.size := by rw [hM, size_madeCells, hz1]; simp
    have hmk : ∀ W : World, (Instr.makeSlice 129 (.int .i64 (s.size : Int)) (.int .i64 (s.size : Int))).run Tryz.prog W = .ok (.slice (some ⟨W.heap.size, 0, none⟩) s.size s.size) (W.alloc (.cells M 5)) := fun W => by
      have h := run_make (P := Tryz.prog) W 129 5 i0 (.int .u8 0) Tryz.underlying129 hi hz0 .i64 .i64 (s.size : Int) (s.size : Int) (by omega) (by omega) (by rw [hz2]; omega) (by omega)
      rw [← hM] at h
      simpa using h
    clear hM
    have hcp := Lib.run_copy_row_string (P := Tryz.prog) (w.alloc (.cells M 5)) 129 9 3 5 w.heap.size 0 s.size s.size s M 5 Tryz.underlying129 hinfo (heap_alloc_new w _) (Nat.le_refl _) (by omega)
    obtain ⟨Y, hY⟩ : ∃ Y, Y = (M.toList.take 0 ++ Lib.byteCells s.data.toList ++ M.toList.drop (0 + s.size)).toArray := ⟨_, rfl⟩
    rw [← hY] at hcp
    have hYl : Y.toList = Lib.byteCells s.data.toList := by
      rw [hY, List.toList_toArray, List.take_zero, List.nil_append, List.drop_of_length_le (by rw [Array.length_toList]; omega), List.append_nil]
    have hYs : Y.size = s.size := by rw [← Array.length_toList, hYl, Lib.byteCells_length, ← Lib.size_eq]
    have hgY : ((w.alloc (.cells M 5)).setRow w.heap.size Y).heap[w.heap.size]? = some (.cells Y 5 (0, 0)) := setRow_heap _ _ M _ 5 (0, 0) (heap_alloc_new w _)
    have hne : s.data.toList ≠ [] := fun e => h0 (by rw [Lib.size_eq, e]; rfl)
    have hUS := Lib.run_unsafeString_row (P := Tryz.prog) ((w.alloc (.cells M 5)).setRow w.heap.size Y) 250 3 9 5 Tryz.underlying250 hco w.heap.size Y.size (by unfold World.shape?; rw [hgY]) s.data.toList hne (by rw [← Lib.size_eq]; omega) (by rw [← Lib.size_eq]; omega)
      (fun j x hx => Lib.cells_of_row hgY Y.size j _ (by rw [List.take_of_length_le (by rw [Array.length_toList]; exact Nat.le_refl _), hYl]; simp [Lib.byteCells, hx]))
    rw [← Lib.size_eq] at hUS
    clear hY
    go_enter Tryz.func153, Tryz.ntmps153
    go_wp2
    go_ret
    have hb1 : Below w.heap.size w (w.alloc (.cells M 5)) := (Below.refl _ w).alloc (Nat.le_refl _) _
    have hb2 : Below w.heap.size (w.alloc (.cells M 5)) ((w.alloc (.cells M 5)).setRow w.heap.size Y) := ⟨rfl, rfl, rfl, by simp, fun k hk => setRow_other _ _ _ _ (by omega)⟩
    exact ⟨rfl, Lib.below_freeze (hb1.trans hb2) (p := ⟨w.heap.size, 0, none⟩) (Nat.le_refl _) _⟩

theorem clone_any (s : ByteArray) (w : World) (hlim : s.size ≤ 281474976710656) :
    Calls Tryz.prog 123 #[.string s] w fun e w' => e = .returned (.string s) ∧ Below w.heap.size w w' := by
  have H := Lib.hid (fun w => sliteClone s w hlim)
  go_enter Tryz.func123, Tryz.ntmps123
  go_wp2_with (go_at_call 153; refine (H.out _).mono ?_; rintro e w1 ⟨rfl, hb⟩)
  go_ret
  exact ⟨rfl, hb⟩
end Go.Proofs.YtecnijnmgdfdhaaGreat.Ks

/- Get: an entry's bytes. (UNDER WAY) -/
namespace Go.Proofs.YtecnijnmgdfdhaaGreat.Ks
open Go.RowKit

end Go.Proofs.YtecnijnmgdfdhaaGreat.Ks
