/- Joined: KeysWalks, KeysWalks2, KeysWalks3, KeysWalks4, KeysWalks5, KeysGet, KeysGet2, KeysClone, KeysGet3. -/
import Derived.Test.YtecnijnmgdfdhaaGreatProg
import Derived.Test.YtecnijnmgdfdhaaGreatYKit
import Derived.Handy
import Derived.Lib.Strings
import Derived.Deep.RegionHeld3
import Derived.Deep.QuietTactic
import Derived.BigQuiet
import Derived.Laws.StructEq
import Derived.Lib.UnsafeStr
import Derived.Lib.BufferWrite
namespace Go.Proofs.YtecnijnmgdfdhaaGreat.Ks
open Go.RowKit

theorem spread_num (v : Int) (hv : Ky.In v) : IntKind.u64.wrap (IntKind.u64.wrap v + 9223372036854775808) = (Ky.nat v : Int) := by
 unfold Ky.In at hv
 unfold Ky.nat
 simp only [IntKind.wrap_u64]
 omega
theorem enc_cells (v : Int) : #[Value.int .u8 ((Ky.nat v : Int) / 256 / 256 / 256 / 256 / 256 / 256 / 256 % 256), .int .u8 ((Ky.nat v : Int) / 256 / 256 / 256 / 256 / 256 / 256 % 256), .int .u8 ((Ky.nat v : Int) / 256 / 256 / 256 / 256 / 256 % 256), .int .u8 ((Ky.nat v : Int) / 256 / 256 / 256 / 256 % 256), .int .u8 ((Ky.nat v : Int) / 256 / 256 / 256 % 256), .int .u8 ((Ky.nat v : Int) / 256 / 256 % 256), .int .u8 ((Ky.nat v : Int) / 256 % 256), .int .u8 ((Ky.nat v : Int) % 256)] = (bytesV (Ky.enc v)).toArray := by
 simp [bytesV, Ky.enc, Ky.be]

set_option maxRecDepth 100000 in
set_option maxHeartbeats 1000000 in
theorem spread_any (v : Int) (hv : Ky.In v) (w : World) :
  Calls Tryz.prog 121 #[.int .i64 v] w fun e w' => e = .returned (.agg (bytesV (Ky.enc v)).toArray) ∧ Below w.heap.size w w' := by
 rw [← enc_cells]
 have hnum := spread_num v hv
 go_enter Tryz.func121, Tryz.ntmps121
 clear hnum
 go_wp2
 rw [spread_num v hv]
 have hand := u64_and255
 refine wp_loop_rounds 9 ?_
 repeat any_goals (rw [rounds_succ]; go_wp2)
 go_returns
 exact ⟨rfl, ((Below.refl _ _).alloc (Nat.le_refl _) _).alloc (by simp) _⟩

theorem eight_of {l : List UInt8} (h : l.length = 8) : ∃ a b c d e f g i, l = [a, b, c, d, e, f, g, i] := by
 match l, h with
 | [a, b, c, d, e, f, g, i], _ => exact ⟨a, b, c, d, e, f, g, i, rfl⟩

theorem eight_made (w : World) (b0 b1 b2 b3 b4 b5 b6 b7 : UInt8) (t : TypeId) (fr : Nat × Nat) : Rd (w.alloc (.cells #[.int .u8 b0.toNat, .int .u8 b1.toNat, .int .u8 b2.toNat, .int .u8 b3.toNat, .int .u8 b4.toNat, .int .u8 b5.toNat, .int .u8 b6.toNat, .int .u8 b7.toNat] t fr)) 1 (some ⟨w.heap.size, 0, none⟩) 8 8 (bytesV [b0, b1, b2, b3, b4, b5, b6, b7]) :=
 Rd.made w (bytesV [b0, b1, b2, b3, b4, b5, b6, b7]) t 1 8 rfl (by decide) (bytesV_one _) fr

set_option maxRecDepth 100000 in
set_option maxHeartbeats 1000000 in
theorem prefix_any (v : Int) (hv : Ky.In v) (w : World) :
  Calls Tryz.prog 86 #[.int .i64 v] w fun e w' => e = .returned (.string ⟨(Ky.enc v).toArray⟩) ∧ Below w.heap.size w w' := by
 have hs := spread_any v hv w
 obtain ⟨b0, b1, b2, b3, b4, b5, b6, b7, he⟩ := eight_of (Ky.enc_length v)
 rw [he] at hs ⊢
 have HS := Lib.hid hs
 clear hs he
 go_enter Tryz.func86, Tryz.ntmps86
 go_wp2_with (go_at_call 121; refine HS.out.mono ?_; rintro e w1 ⟨rfl, hb1⟩; simp only [bytesV, List.map_cons, List.map_nil])
 rw [run_bytes_str Tryz.underlying129 Tryz.underlying5 Tryz.underlying9 (eight_made w1 b0 b1 b2 b3 b4 b5 b6 b7 _ _)]
 go_wp2
 go_ret
 exact ⟨rfl, hb1.alloc hb1.size _⟩

theorem list_of (a : List UInt8) : (⟨a.toArray⟩ : ByteArray).toList = a := by rw [Lib.toList_data]
theorem str_lss (t : TypeId) (a b : List UInt8) : binOp .lss t (.string ⟨a.toArray⟩) (.string ⟨b.toArray⟩) = pure (.bool (Op.bytesLess a b)) := by
 simp [binOp, Op.stringOp, list_of]
theorem str_gtr (t : TypeId) (a b : List UInt8) : binOp .gtr t (.string ⟨a.toArray⟩) (.string ⟨b.toArray⟩) = pure (.bool (Op.bytesLess b a)) := by
 have h : (!(Op.bytesLess a b || a == b)) = Op.bytesLess b a := by
  rcases Ky.less_trich a b with h | h | h
  ·subst h; simp [Ky.less_self]
  ·simp [h, Ky.less_asymm h]
  ·have hne : (a == b) = false := by
    rw [beq_eq_false_iff_ne]; rintro rfl; rw [Ky.less_self] at h; cases h
   simp [h, Ky.less_asymm h, hne]
 simp only [binOp, Op.stringOp, list_of, h]
theorem str_geq (t : TypeId) (a b : List UInt8) : binOp .geq t (.string ⟨a.toArray⟩) (.string ⟨b.toArray⟩) = pure (.bool (!Op.bytesLess a b)) := by
 simp [binOp, Op.stringOp, list_of]
theorem str_eql (t : TypeId) (a b : List UInt8) : binOp .eql t (.string ⟨a.toArray⟩) (.string ⟨b.toArray⟩) = pure (.bool (a == b)) := by
 simp [binOp, Op.stringOp, list_of]
theorem cat_run (t : TypeId) (a b : List UInt8) (h : a.length + b.length ≤ 9223372036854775807) : binOp .add t (.string ⟨a.toArray⟩) (.string ⟨b.toArray⟩) = pure (.string ⟨(a ++ b).toArray⟩) := by
 have hsz : ∀ l : List UInt8, (⟨l.toArray⟩ : ByteArray).size = l.length := fun l => by simp [ByteArray.size]
 have happ : (⟨a.toArray⟩ : ByteArray) ++ ⟨b.toArray⟩ = ⟨(a ++ b).toArray⟩ := by
  apply ByteArray.ext
  simp
 have hm : IntKind.i64.max = 9223372036854775807 := by decide
 simp only [binOp, Op.stringOp, hsz, hm, happ]
 rw [if_neg (by omega)]
def okKey (k : List UInt8) : Bool := decide (1 ≤ k.length ∧ k.length ≤ 16)
def chk (k : List UInt8) : Int := if okKey k then 0 else 13

set_option maxHeartbeats 400000 in
theorem check_any (k : List UInt8) (w : World) :
  Calls Tryz.prog 60 #[.string ⟨k.toArray⟩] w fun e w' => e = .returned (.int .i64 (chk k)) ∧ w = w' := by
 by_cases h1 : k.length < 1
 ·have hc : chk k = 13 := by unfold chk okKey; simp; omega
  rw [hc]
  clear hc
  go_enter Tryz.func60, Tryz.ntmps60
  go_wp2
  go_ret
  exact ⟨rfl, rfl⟩
 by_cases h2 : 16 < k.length
 ·have hc : chk k = 13 := by unfold chk okKey; simp; omega
  rw [hc]
  clear hc
  go_enter Tryz.func60, Tryz.ntmps60
  go_wp2
  go_ret
  exact ⟨rfl, rfl⟩
 ·have hc : chk k = 0 := by unfold chk okKey; simp; omega
  rw [hc]
  clear hc
  go_enter Tryz.func60, Tryz.ntmps60
  go_wp2
  go_ret
  exact ⟨rfl, rfl⟩

set_option maxHeartbeats 400000 in
theorem put_good (v : Int) (hv : Ky.In v) (k : List UInt8) (w : World) (h : okKey k = true) :
  Calls Tryz.prog 91 #[.agg #[.int .i64 v, .string ⟨k.toArray⟩]] w fun e w' => e = .returned (.tuple #[.string ⟨(Ky.put v k).toArray⟩, .int .i64 0]) ∧ Below w.heap.size w w' := by
 have hc : chk k = 0 := by unfold chk; rw [h]; rfl
 have HC := Lib.hid hc
 have hk16 : k.length ≤ 16 := by unfold okKey at h; simp at h; omega
 have hcat : binOp .add 9 (.string ⟨(Ky.enc v).toArray⟩) (.string ⟨k.toArray⟩) = pure (.string ⟨(Ky.put v k).toArray⟩) := cat_run _ _ _ (by rw [Ky.enc_length]; omega)
 clear hc h
 go_enter Tryz.func91, Tryz.ntmps91
 go_wp2_with (go_at_call 60; refine (check_any k _).mono ?_; rintro e w' ⟨rfl, rfl⟩; rw [HC.out])
 have hb0 := (Below.refl w.heap.size w).alloc (Nat.le_refl _) (.cells #[.int .i64 v, .string ⟨k.toArray⟩] 119)
 have c0 : (w.alloc (.cells #[.int .i64 v, .string ⟨k.toArray⟩] 119)).cell? ⟨w.heap.size, 0, none⟩ = some (.int .i64 v) := by simp
 have c1 : (w.alloc (.cells #[.int .i64 v, .string ⟨k.toArray⟩] 119)).cell? ⟨w.heap.size, 1, none⟩ = some (.string ⟨k.toArray⟩) := by simp
 have HB0 := Lib.hid hb0
 have C0 := Lib.hid c0
 have C1 := Lib.hid c1
 clear hb0 c0 c1
 generalize w.alloc (.cells #[.int .i64 v, .string ⟨k.toArray⟩] 119) = W0 at *
 go_region_held3 (fun W => W.cell? ⟨w.heap.size, 0, none⟩ = some (.int .i64 v) ∧ W.cell? ⟨w.heap.size, 1, none⟩ = some (.string ⟨k.toArray⟩))
  (first | exact ⟨C0.out, C1.out⟩ | exact ⟨old_cell C0.out HB1.out, old_cell C1.out HB1.out⟩)
  (first | (go_at_call 86; refine (prefix_any v hv _).mono ?_; rintro e w1 ⟨rfl, hb1⟩; have HB1 := Lib.hid ((Below.refl W0.heap.size W0).drew.trans hb1); clear hb1))
 go_wp2
 go_ret2
 exact ⟨rfl, HB0.out.trans (HB1.out.mono HB0.out.size)⟩
end Go.Proofs.YtecnijnmgdfdhaaGreat.Ks

namespace Go.Proofs.YtecnijnmgdfdhaaGreat.Ks
open Go.RowKit

theorem nanInt (x : Int) (w : World) : Calls Tryz.prog 140 #[.int .i64 x] w fun e w' => e = .returned (.bool false) ∧ w = w' := by
 go_enter Tryz.func140, Tryz.ntmps140
 go_wp2
 go_ret
 exact ⟨rfl, rfl⟩
theorem nanStr (x : List UInt8) (w : World) : Calls Tryz.prog 141 #[.string ⟨x.toArray⟩] w fun e w' => e = .returned (.bool false) ∧ w = w' := by
 go_enter Tryz.func141, Tryz.ntmps141
 go_wp2
 go_ret
 exact ⟨rfl, rfl⟩
def cmpI (x y : Int) : Int := if x < y then -1 else if y < x then 1 else 0
theorem cmpInt (x y : Int) (w : World) : Calls Tryz.prog 112 #[.int .i64 x, .int .i64 y] w fun e w' => e = .returned (.int .i64 (cmpI x y)) ∧ w = w' := by
 rcases Int.lt_trichotomy x y with h | h | h
 ·have hc : cmpI x y = -1 := by unfold cmpI; rw [if_pos h]
  rw [hc]
  clear hc
  go_enter Tryz.func112, Tryz.ntmps112
  go_wp2_with (go_at_call 140; refine (nanInt _ _).mono ?_; rintro e w' ⟨rfl, rfl⟩)
  go_ret
  exact ⟨rfl, rfl⟩
 ·subst h
  have hc : cmpI x x = 0 := by unfold cmpI; simp
  rw [hc]
  clear hc
  go_enter Tryz.func112, Tryz.ntmps112
  go_wp2_with (go_at_call 140; refine (nanInt _ _).mono ?_; rintro e w' ⟨rfl, rfl⟩)
  go_ret
  exact ⟨rfl, rfl⟩
 ·have hc : cmpI x y = 1 := by unfold cmpI; rw [if_neg (by omega), if_pos h]
  have hn : ¬ x < y := by omega
  rw [hc]
  clear hc
  go_enter Tryz.func112, Tryz.ntmps112
  go_wp2_with (go_at_call 140; refine (nanInt _ _).mono ?_; rintro e w' ⟨rfl, rfl⟩)
  go_ret
  exact ⟨rfl, rfl⟩

theorem cmpStr (x y : List UInt8) (w : World) : Calls Tryz.prog 113 #[.string ⟨x.toArray⟩, .string ⟨y.toArray⟩] w fun e w' => e = .returned (.int .i64 (Ky.cmpS x y)) ∧ w = w' := by
 have hg := str_gtr 9 x y
 have hl := str_lss 9 x y
 rcases Ky.less_trich x y with h | h | h
 ·subst h
  rw [Ky.cmpS_self]
  have h := Ky.less_self x
  go_enter Tryz.func113, Tryz.ntmps113
  go_wp2_with (go_at_call 141; refine (nanStr _ _).mono ?_; rintro e w' ⟨rfl, rfl⟩)
  go_ret
  exact ⟨rfl, rfl⟩
 ·have hc : Ky.cmpS x y = -1 := by unfold Ky.cmpS; rw [if_pos h]
  rw [hc]
  clear hc
  go_enter Tryz.func113, Tryz.ntmps113
  go_wp2_with (go_at_call 141; refine (nanStr _ _).mono ?_; rintro e w' ⟨rfl, rfl⟩)
  go_ret
  exact ⟨rfl, rfl⟩
 ·have h2 := Ky.less_asymm h
  have hc : Ky.cmpS x y = 1 := by unfold Ky.cmpS; rw [if_neg (by rw [h2]; decide), if_pos h]
  rw [hc]
  clear hc
  go_enter Tryz.func113, Tryz.ntmps113
  go_wp2_with (go_at_call 141; refine (nanStr _ _).mono ?_; rintro e w' ⟨rfl, rfl⟩)
  go_ret
  exact ⟨rfl, rfl⟩

end Go.Proofs.YtecnijnmgdfdhaaGreat.Ks

namespace Go.Proofs.YtecnijnmgdfdhaaGreat.Ks
open Go.RowKit

@[go_sem] theorem eqEntry (v : Int) (s : ByteArray) (x : Int) (t : ByteArray) (w : World) : (Op.equalIn 10000 119 (.agg #[.int .i64 v, .string s]) (.agg #[.int .i64 x, .string t])).run Tryz.prog w = .ok (v == x && s.toList == t.toList) w := by
 have u3 := Tryz.underlying3
 have a3 := Tryz.isAgg3
 have z3 := Tryz.sizeOf3
 have u9 := Tryz.underlying9
 have a9 := Tryz.isAgg9
 have z9 := Tryz.sizeOf9
 have hS : Tryz.prog.underlying 119 = some (.struct (Tryz.prog.fieldsOf 119)) := by kernel_rfl
 have hp : Tryz.prog.stoodInHeld 119 = false := by kernel_rfl
 rw [show (10000 : Nat) = 9999 + 1 from rfl, run_equalIn_agg w 9999 119 _ _ hS hp]
 simp only [Program.fieldsOf, Tryz.underlying119]
 go_simp
 by_cases h1 : v = x <;> by_cases h2 : s.toList = t.toList <;> simp [h1, h2]
theorem al1 (w : World) (o : Obj) : Below w.heap.size w (w.alloc o) := (Below.refl _ _).alloc (Nat.le_refl _) _
abbrev entV (v : Int) (s : List UInt8) : Value := .agg #[.int .i64 v, .string ⟨s.toArray⟩]

end Go.Proofs.YtecnijnmgdfdhaaGreat.Ks

namespace Go.Proofs.YtecnijnmgdfdhaaGreat.Ks
open Go.RowKit

theorem split_at {s : List UInt8} {k : Nat} {a : UInt8} (h : s[k]? = some a) : s = s.take k ++ a :: s.drop (k + 1) := by
 obtain ⟨hk, rfl⟩ := List.getElem?_eq_some_iff.1 h
 rw [← List.drop_eq_getElem_cons hk, List.take_append_drop]
theorem less_at {s t : List UInt8} {k : Nat} {a b : UInt8} (hp : s.take k = t.take k) (ha : s[k]? = some a) (hb : t[k]? = some b) (h : a.toNat < b.toNat) : Ky.less s t = true := by
 rw [split_at ha, split_at hb, hp, Ky.less_append _ _ _ _ rfl]
 simp [Op.bytesLess, UInt8.lt_iff_toNat_lt, h]
theorem cmpS_lt {s t : List UInt8} {k : Nat} {a b : UInt8} (hp : s.take k = t.take k) (ha : s[k]? = some a) (hb : t[k]? = some b) (h : a.toNat < b.toNat) : Ky.cmpS s t = -1 := by
 unfold Ky.cmpS
 rw [if_pos (less_at hp ha hb h)]
theorem cmpS_gt {s t : List UInt8} {k : Nat} {a b : UInt8} (hp : s.take k = t.take k) (ha : s[k]? = some a) (hb : t[k]? = some b) (h : b.toNat < a.toNat) : Ky.cmpS s t = 1 := by
 have h1 := less_at hp.symm hb ha h
 unfold Ky.cmpS
 rw [if_neg (by rw [Ky.less_asymm h1]; decide), if_pos h1]
theorem less_short {s t : List UInt8} {k : Nat} (hp : s.take k = t.take k) (hs : k = s.length) (h : s.length < t.length) : Ky.less s t = true := by
 subst hs
 have e : t = s ++ t.drop s.length := by
  have := List.take_append_drop s.length t
  rw [← hp, List.take_length] at this
  exact this.symm
 have hne : t.drop s.length ≠ [] := by
  intro h0
  have := congrArg List.length h0
  rw [List.length_drop, List.length_nil] at this
  omega
 rw [e]
 conv => lhs; arg 1; rw [← List.append_nil s]
 rw [Ky.less_append _ _ _ _ rfl, Ky.less_self, Ky.less_nil_left]
 cases h0 : t.drop s.length with
 | nil => exact absurd h0 hne
 | cons _ _ => simp

theorem idx_run {s : List UInt8} {k : Nat} {b : UInt8} (h : s[k]? = some b) (w : World) : (Instr.index 9 (.string ⟨s.toArray⟩) (.int .i64 (k : Int))).run Tryz.prog w = .ok (.int .u8 b.toNat) w := by
 obtain ⟨hk, rfl⟩ := List.getElem?_eq_some_iff.1 h
 have hsz : (⟨s.toArray⟩ : ByteArray).size = s.length := by simp [ByteArray.size]
 rw [run_index_string w 9 _ .i64 k Tryz.underlying9, dif_pos (by rw [hsz]; omega)]
 congr 3

set_option maxRecDepth 100000 in
set_option maxHeartbeats 1000000 in
theorem refCompare (v : Int) (s : List UInt8) (x : Int) (t : List UInt8) (hsl : s.length ≤ 1000000) (w : World) :
  Calls Tryz.prog 50 #[.int .i64 v, .string ⟨s.toArray⟩, .int .i64 x, .string ⟨t.toArray⟩] w fun e w' => e = .returned (.int .i64 (Ky.cmpE v s x t)) ∧ ∃ n, w' = w.drewN n := by
 by_cases hv : v = x
 ·subst hv
  have hd : (v != v) = false := by simp
  have he : Ky.cmpE v s v t = Ky.cmpS s t := by unfold Ky.cmpE; simp
  rw [he]
  clear he
  go_enter Tryz.func50, Tryz.ntmps50
  go_wp2
  go_loopw [9] (fun i wr => ∃ k nd : Nat, k ≤ s.length ∧ k ≤ t.length ∧ i = .int .i64 k ∧ wr = w.drewN nd ∧ Hid (s.take k = t.take k)) (fun i _ => s.length - (intOf i).toNat)
  case atStart => exact ⟨0, 0, Nat.zero_le _, Nat.zero_le _, rfl, rfl, Lib.hid rfl⟩
  case round =>
   obtain ⟨k, nd, hk, hk2, rfl, rfl, Heq⟩ := hrel
   by_cases h1 : k < s.length
   ·by_cases h2 : k < t.length
    ·obtain ⟨a, ha⟩ : ∃ a, s[k]? = some a := ⟨_, List.getElem?_eq_getElem h1⟩
     obtain ⟨b, hb⟩ : ∃ b, t[k]? = some b := ⟨_, List.getElem?_eq_getElem h2⟩
     have Ha := Lib.hid ha
     have Hb := Lib.hid hb
     have ra := fun w => idx_run ha w
     have rb := fun w => idx_run hb w
     clear ha hb
     rcases Nat.lt_trichotomy a.toNat b.toNat with hab | hab | hab
     ·have Hr := Lib.hid (cmpS_lt Heq.out Ha.out Hb.out hab)
      have hd2 : (a.toNat != b.toNat) = true := by rw [bne_iff_ne]; omega
      have hd3 : ((a.toNat : Int) != (b.toNat : Int)) = true := by rw [bne_iff_ne]; omega
      go_wp2
      go_quiet (fail)
      go_wp2
      go_quiet (fail)
      go_wp2
      rw [Hr.out]
      go_ret
      exact ⟨rfl, _, by rw [World.drewN_drewN, World.drewN_drewN]⟩
     ·obtain rfl : a = b := UInt8.toNat_inj.1 hab
      have hd2 : ((a.toNat : Int) != (a.toNat : Int)) = false := by simp
      clear hab
      go_wp2
      go_quiet (fail)
      go_wp2
      go_roundw
      case rel => exact ⟨k + 1, _, by omega, by omega, by go_num, rfl, Lib.hid (by rw [List.take_add_one, List.take_add_one, Heq.out, Ha.out, Hb.out])⟩
      case measure => simp [intOf]; omega
     ·have Hr := Lib.hid (cmpS_gt Heq.out Ha.out Hb.out hab)
      have hd2 : (a.toNat != b.toNat) = true := by rw [bne_iff_ne]; omega
      have hd3 : ((a.toNat : Int) != (b.toNat : Int)) = true := by rw [bne_iff_ne]; omega
      go_wp2
      go_quiet (fail)
      go_wp2
      go_quiet (fail)
      go_wp2
      rw [Hr.out]
      go_ret
      exact ⟨rfl, _, by rw [World.drewN_drewN, World.drewN_drewN]⟩
    ·have hkt : k = t.length := by omega
     have hlt : ¬ s.length < t.length := by omega
     have hgt : t.length < s.length := by omega
     have h3 := less_short Heq.out.symm hkt hgt
     have Hr : Hid (Ky.cmpS s t = 1) := Lib.hid (by unfold Ky.cmpS; rw [if_neg (by rw [Ky.less_asymm h3]; decide), if_pos h3])
     clear h3 hkt
     go_wp2
     rw [Hr.out]
     go_ret
     exact ⟨rfl, _, rfl⟩
   ·have hks : k = s.length := by omega
    by_cases h2 : s.length < t.length
    ·have h3 := less_short Heq.out hks h2
     have Hr : Hid (Ky.cmpS s t = -1) := Lib.hid (by unfold Ky.cmpS; rw [if_pos h3])
     clear h3 hks
     go_wp2
     rw [Hr.out]
     go_ret
     exact ⟨rfl, _, rfl⟩
    ·have hst : s = t := by
      have := Heq.out
      rw [List.take_of_length_le (by omega), List.take_of_length_le (by omega)] at this
      exact this
     have hgt : ¬ t.length < s.length := by rw [hst]; omega
     have Hr : Hid (Ky.cmpS s t = 0) := Lib.hid (Ky.cmpS_zero.2 hst)
     clear hst hks
     go_wp2
     rw [Hr.out]
     go_ret
     exact ⟨rfl, _, rfl⟩
 ·have hd : (v != x) = true := by rw [bne_iff_ne]; exact hv
  by_cases h1 : v < x
  ·have he : Ky.cmpE v s x t = -1 := by unfold Ky.cmpE; rw [if_pos h1]
   rw [he]
   clear he
   go_enter Tryz.func50, Tryz.ntmps50
   go_wp2
   go_ret
   exact ⟨rfl, 0, rfl⟩
  ·have he : Ky.cmpE v s x t = 1 := by unfold Ky.cmpE; rw [if_neg h1, if_pos (by omega)]
   rw [he]
   clear he
   go_enter Tryz.func50, Tryz.ntmps50
   go_wp2
   go_ret
   exact ⟨rfl, 0, rfl⟩
end Go.Proofs.YtecnijnmgdfdhaaGreat.Ks

namespace Go.Proofs.YtecnijnmgdfdhaaGreat.Ks
open Go.RowKit

def bend (b : Int) : List UInt8 := if b < 9223372036854775807 then Ky.enc (b + 1) else []
theorem bounds_bad (a b : Int) (h : b < a) (w : World) :
  Calls Tryz.prog 55 #[.int .i64 a, .int .i64 b] w fun e w' => e = .returned (.tuple #[.string ⟨#[]⟩, .string ⟨#[]⟩, .int .i64 10]) ∧ w = w' := by
 go_enter Tryz.func55, Tryz.ntmps55
 go_wp2
 go_returns
 exact ⟨rfl, rfl⟩
set_option maxHeartbeats 1000000 in
theorem bounds_good (a b : Int) (ha : Ky.In a) (hb : Ky.In b) (h : ¬ b < a) (w : World) :
  Calls Tryz.prog 55 #[.int .i64 a, .int .i64 b] w fun e w' => e = .returned (.tuple #[.string ⟨(Ky.enc a).toArray⟩, .string ⟨(bend b).toArray⟩, .int .i64 0]) ∧ Below w.heap.size w w' := by
 by_cases hm : b < 9223372036854775807
 ·have hb1 : Ky.In (b + 1) := by unfold Ky.In at *; omega
  have he : bend b = Ky.enc (b + 1) := by unfold bend; rw [if_pos hm]
  rw [he]
  have H1 := Lib.hid hb1
  have Ha := Lib.hid ha
  have hb2 : -9223372036854775808 ≤ b := hb.1
  clear ha hb hb1 he
  have tok1 : True := trivial
  go_enter Tryz.func55, Tryz.ntmps55
  go_wp2_with (first
   | (have _t := tok1; go_at_call 86; refine (prefix_any (b + 1) H1.out _).mono ?_; rintro e w1 ⟨rfl, h1⟩; have HB1 := Lib.hid h1; clear h1 tok1)
   | (go_at_call 86; refine (prefix_any a Ha.out _).mono ?_; rintro e w2 ⟨rfl, h2⟩; have HB2 := Lib.hid h2; clear h2))
  go_returns
  exact ⟨rfl, HB1.out.trans (HB2.out.mono HB1.out.size)⟩
 ·have he : bend b = [] := by unfold bend; rw [if_neg hm]
  rw [he]
  have Ha := Lib.hid ha
  clear ha hb he
  go_enter Tryz.func55, Tryz.ntmps55
  go_wp2_with (first
   | (go_at_call 86; refine (prefix_any a Ha.out _).mono ?_; rintro e w2 ⟨rfl, h2⟩; have HB2 := Lib.hid h2; clear h2))
  go_returns
  exact ⟨rfl, HB2.out⟩

end Go.Proofs.YtecnijnmgdfdhaaGreat.Ks

namespace Go.Proofs.YtecnijnmgdfdhaaGreat.Ks
open Go.RowKit

theorem u64_or (n b : Nat) (hb : b < 256) (h : 256 * n + b < 18446744073709551616) : bits .or .u64 ((n : Int) * 256) (b : Int) = ((256 * n + b : Nat) : Int) := by
 have e1 : (BitVec.ofInt 64 ((n : Int) * 256)).toNat = 256 * n := by rw [BitVec.toNat_ofInt]; omega
 have e2 : (BitVec.ofInt 64 (b : Int)).toNat = b := by rw [BitVec.toNat_ofInt]; omega
 have key : (BitVec.ofInt 64 ((n : Int) * 256) ||| BitVec.ofInt 64 (b : Int)).toNat = 256 * n + b := by
  rw [BitVec.toNat_or, e1, e2]
  exact (Nat.two_pow_add_eq_or_of_lt (i := 8) hb n).symm
 show IntKind.u64.wrap ((BitVec.ofInt 64 ((n : Int) * 256) ||| BitVec.ofInt 64 (b : Int)).toNat : Nat) = _
 rw [key, IntKind.wrap_u64]
 omega

set_option maxRecDepth 100000 in
set_option maxHeartbeats 1000000 in
theorem gather_any (b0 b1 b2 b3 b4 b5 b6 b7 : UInt8) (w : World) :
  Calls Tryz.prog 122 #[.agg #[.int .u8 b0.toNat, .int .u8 b1.toNat, .int .u8 b2.toNat, .int .u8 b3.toNat, .int .u8 b4.toNat, .int .u8 b5.toNat, .int .u8 b6.toNat, .int .u8 b7.toNat]] w fun e w' => e = .returned (.int .i64 (Ky.dec [b0, b1, b2, b3, b4, b5, b6, b7])) ∧ Below w.heap.size w w' := by
 have hm := eight_made w b0 b1 b2 b3 b4 b5 b6 b7 205 (0, 0)
 obtain ⟨W, hW⟩ : ∃ W, W = w.alloc (.cells #[.int .u8 b0.toNat, .int .u8 b1.toNat, .int .u8 b2.toNat, .int .u8 b3.toNat, .int .u8 b4.toNat, .int .u8 b5.toNat, .int .u8 b6.toNat, .int .u8 b7.toNat] 205) := ⟨_, rfl⟩
 have hb := al1 w (.cells #[.int .u8 b0.toNat, .int .u8 b1.toNat, .int .u8 b2.toNat, .int .u8 b3.toNat, .int .u8 b4.toNat, .int .u8 b5.toNat, .int .u8 b6.toNat, .int .u8 b7.toNat] 205)
 rw [← hW] at hm hb
 have HB := Lib.hid hb
 have HW := Lib.hid hW
 generalize hl : [b0, b1, b2, b3, b4, b5, b6, b7] = l at *
 have hlen : l.length = 8 := by rw [← hl]; rfl
 have HC : Hid (∀ k b, l[k]? = some b → W.cell? ⟨w.heap.size, k, none⟩ = some (.int .u8 b.toNat)) := Lib.hid (fun k b h => by
  have := hm.cell _ rfl k _ (bytesV_get h)
  rwa [Addr.add_lit, Nat.zero_add] at this)
 clear hm hb hW hl
 go_enter Tryz.func122, Tryz.ntmps122
 go_wp2
 rw [← HW.out]
 go_loop [3, 5] (fun x i => ∃ k : Nat, k ≤ 8 ∧ i = .int .i64 k ∧ x = .int .u64 (Ky.val (l.take k))) (fun _ i => 8 - (intOf i).toNat)
 case atStart => exact ⟨0, by omega, rfl, rfl⟩
 case round =>
  obtain ⟨k, hk, rfl, rfl⟩ := hrel
  by_cases hlt : k < 8
  ·obtain ⟨b, hb⟩ : ∃ b, l[k]? = some b := ⟨_, List.getElem?_eq_getElem (by omega)⟩
   have hcell := HC.out k b hb
   have hv := Ky.val_lt (l.take k)
   have HS : Hid (Ky.val (l.take (k + 1)) = 256 * Ky.val (l.take k) + b.toNat) := Lib.hid (by rw [List.take_add_one, hb]; exact Ky.val_snoc _ _)
   have hbl := b.toNat_lt
   have hq : Ky.val (l.take k) < 72057594037927936 := by
    rw [List.length_take, Nat.min_eq_left (by omega)] at hv
    have h3 := Nat.pow_le_pow_right (n := 256) (by decide) (show k ≤ 7 by omega)
    have h4 : (256 : Nat) ^ 7 = 72057594037927936 := by decide
    omega
   clear hb hv
   generalize Ky.val (l.take k) = q at *
   have hor := u64_or q b.toNat hbl (by omega)
   go_wp2
   go_round
   case rel => exact ⟨k + 1, by omega, by go_num, by rw [HS.out, Int.natCast_add, Int.natCast_mul]; rfl⟩
   case measure => simp [intOf]; omega
  ·obtain rfl : k = 8 := by omega
   have hv := Ky.val_lt l
   have ht : l.take 8 = l := List.take_of_length_le (by omega)
   rw [hlen] at hv
   have h4 : (256 : Nat) ^ 8 = 18446744073709551616 := by decide
   have hq : Ky.val l < 18446744073709551616 := by omega
   have HD : Hid (Ky.dec l = (Ky.val l : Int) - 9223372036854775808) := Lib.hid rfl
   rw [ht]
   clear hv ht h4
   generalize Ky.val l = q at *
   have hwr : IntKind.i64.wrap (IntKind.u64.wrap ((q : Int) - 9223372036854775808)) = (q : Int) - 9223372036854775808 := by
    simp only [IntKind.wrap_u64, IntKind.wrap_i64]
    omega
   go_wp2
   rw [HD.out]
   go_ret
   exact ⟨rfl, HB.out⟩
end Go.Proofs.YtecnijnmgdfdhaaGreat.Ks

namespace Go.Proofs.YtecnijnmgdfdhaaGreat.Ks
open Go.RowKit

theorem cut8 (l : List UInt8) (h : 8 ≤ l.length) (W : World) : (Instr.slice 9 (.string ⟨l.toArray⟩) (some (.int .i64 8)) none none).run Tryz.prog W = .ok (.string ⟨(l.drop 8).toArray⟩) W := by
 have hsz : (⟨l.toArray⟩ : ByteArray).size = l.length := by simp [ByteArray.size]
 rw [run_slice_string_l W 9 (ht := Tryz.underlying9) (s := ⟨l.toArray⟩) .i64 8 (by omega) (by rw [hsz]; omega)]
 congr 2
 apply ByteArray.ext
 simp [ByteArray.size, ByteArray.data_extract]
 exact List.take_of_length_le (by rw [List.length_drop]; exact Nat.le_refl _)

end Go.Proofs.YtecnijnmgdfdhaaGreat.Ks

namespace Go.Proofs.YtecnijnmgdfdhaaGreat.Ks
open Go.RowKit

theorem Tryz.infoByte : (Tryz.prog.info? 5).map (fun i => (i.zero, i.size, i.bytes)) = some (some (.int .u8 0), 1, 1) := by kernel_rfl
set_option maxHeartbeats 4000000 in
set_option maxRecDepth 100000 in
theorem sliteClone (s : ByteArray) (w : World) (hlim : s.size ≤ 281474976710656) :
  Calls Tryz.prog 153 #[.string s] w fun e w' => e = .returned (.string s) ∧ Below w.heap.size w w' := by
 by_cases h0 : s.size = 0
 ·have hs : s = ⟨#[]⟩ := by
   apply ByteArray.ext
   exact Array.eq_empty_of_size_eq_zero h0
  subst hs
  go_enter Tryz.func153, Tryz.ntmps153
  go_wp2
  go_ret
  exact ⟨rfl, Below.refl _ _⟩
 ·obtain ⟨i0, hi, hz0, hz1, hz2⟩ := info_parts Tryz.infoByte
  have hinfo : (Tryz.prog.info? 5).map (·.size) = some 1 := by rw [hi]; simp [hz1]
  have hco : Tryz.prog.cellsOf 5 = 1 := by simp [Program.cellsOf, hi, hz1]
  obtain ⟨M, hM⟩ : ∃ M, M = madeCells (Value.int .u8 0).cells (((s.size : Nat) : Int).toNat * i0.size) := ⟨_, rfl⟩
  have hMs : M.size = s.size := by rw [hM, size_madeCells, hz1]; simp
  have hmk : ∀ W : World, (Instr.makeSlice 129 (.int .i64 (s.size : Int)) (.int .i64 (s.size : Int))).run Tryz.prog W = .ok (.slice (some ⟨W.heap.size, 0, none⟩) s.size s.size) (W.alloc (.cells M 5)) := fun W => by
   have h := run_make (P := Tryz.prog) W 129 5 i0 (.int .u8 0) Tryz.underlying129 hi hz0 .i64 .i64 (s.size : Int) (s.size : Int) (by omega) (by omega) (by rw [hz2]; omega) (by omega)
   rw [← hM] at h
   simpa using h
  clear hM
  have hcp := Lib.run_copy_row_string (P := Tryz.prog) (w.alloc (.cells M 5)) 129 9 3 5 w.heap.size 0 s.size s.size s M 5 Tryz.underlying129 hinfo (heap_alloc_new w _) (Nat.le_refl _) (by omega)
  obtain ⟨Y, hY⟩ : ∃ Y, Y = (M.toList.take 0 ++ Lib.byteCells s.data.toList ++ M.toList.drop (0 + s.size)).toArray := ⟨_, rfl⟩
  rw [← hY] at hcp
  have hYl : Y.toList = Lib.byteCells s.data.toList := by
   rw [hY, List.toList_toArray, List.take_zero, List.nil_append, List.drop_of_length_le (by rw [Array.length_toList]; omega), List.append_nil]
  have hYs : Y.size = s.size := by rw [← Array.length_toList, hYl, Lib.byteCells_length, ← Lib.size_eq]
  have hgY : ((w.alloc (.cells M 5)).setRow w.heap.size Y).heap[w.heap.size]? = some (.cells Y 5 (0, 0)) := setRow_heap _ _ M _ 5 (0, 0) (heap_alloc_new w _)
  have hne : s.data.toList ≠ [] := fun e => h0 (by rw [Lib.size_eq, e]; rfl)
  have hUS := Lib.run_unsafeString_row (P := Tryz.prog) ((w.alloc (.cells M 5)).setRow w.heap.size Y) 250 3 9 5 Tryz.underlying250 hco w.heap.size Y.size (by unfold World.shape?; rw [hgY]) s.data.toList hne (by rw [← Lib.size_eq]; omega) (by rw [← Lib.size_eq]; omega)
   (fun j x hx => Lib.cells_of_row hgY Y.size j _ (by rw [List.take_of_length_le (by rw [Array.length_toList]; exact Nat.le_refl _), hYl]; simp [Lib.byteCells, hx]))
  rw [← Lib.size_eq] at hUS
  clear hY
  go_enter Tryz.func153, Tryz.ntmps153
  go_wp2
  go_ret
  have hb1 : Below w.heap.size w (w.alloc (.cells M 5)) := (Below.refl _ w).alloc (Nat.le_refl _) _
  have hb2 : Below w.heap.size (w.alloc (.cells M 5)) ((w.alloc (.cells M 5)).setRow w.heap.size Y) := ⟨rfl, rfl, rfl, by simp, fun k hk => setRow_other _ _ _ _ (by omega)⟩
  exact ⟨rfl, Lib.below_freeze (hb1.trans hb2) (p := ⟨w.heap.size, 0, none⟩) (Nat.le_refl _) _⟩

theorem clone_any (s : ByteArray) (w : World) (hlim : s.size ≤ 281474976710656) :
  Calls Tryz.prog 123 #[.string s] w fun e w' => e = .returned (.string s) ∧ Below w.heap.size w w' := by
 have H := Lib.hid (fun w => sliteClone s w hlim)
 go_enter Tryz.func123, Tryz.ntmps123
 go_wp2_with (go_at_call 153; refine (H.out _).mono ?_; rintro e w1 ⟨rfl, hb⟩)
 go_ret
 exact ⟨rfl, hb⟩
end Go.Proofs.YtecnijnmgdfdhaaGreat.Ks

namespace Go.Proofs.YtecnijnmgdfdhaaGreat.Ks
open Go.RowKit

set_option maxRecDepth 100000 in
set_option maxHeartbeats 2000000 in
theorem get_good8 (b0 b1 b2 b3 b4 b5 b6 b7 : UInt8) (r : List UInt8) (ho : okKey r = true) (w : World) :
  Calls Tryz.prog 88 #[.string ⟨([b0, b1, b2, b3, b4, b5, b6, b7] ++ r).toArray⟩] w fun e w' => e = .returned (.tuple #[entV (Ky.dec [b0, b1, b2, b3, b4, b5, b6, b7]) r, .int .i64 0]) ∧ Below w.heap.size w w' := by
 have hc : chk r = 0 := by unfold chk; rw [ho]; rfl
 have HC := Lib.hid (check_any r)
 rw [hc] at HC
 have hcut : ∀ W, (Instr.slice 9 (.string ⟨([b0, b1, b2, b3, b4, b5, b6, b7] ++ r).toArray⟩) (some (.int .i64 8)) none none).run Tryz.prog W = .ok (.string ⟨r.toArray⟩) W := fun W => cut8 ([b0, b1, b2, b3, b4, b5, b6, b7] ++ r) (by simp) W
 have hlen : 8 ≤ ([b0, b1, b2, b3, b4, b5, b6, b7] ++ r).length := by simp
 have r0 : ∀ w, (Instr.index 9 (.string ⟨([b0, b1, b2, b3, b4, b5, b6, b7] ++ r).toArray⟩) (.int .i64 0)).run Tryz.prog w = .ok (.int .u8 b0.toNat) w := fun w => idx_run (s := [b0, b1, b2, b3, b4, b5, b6, b7] ++ r) (k := 0) rfl w
 have r1 : ∀ w, (Instr.index 9 (.string ⟨([b0, b1, b2, b3, b4, b5, b6, b7] ++ r).toArray⟩) (.int .i64 1)).run Tryz.prog w = .ok (.int .u8 b1.toNat) w := fun w => idx_run (s := [b0, b1, b2, b3, b4, b5, b6, b7] ++ r) (k := 1) rfl w
 have r2 : ∀ w, (Instr.index 9 (.string ⟨([b0, b1, b2, b3, b4, b5, b6, b7] ++ r).toArray⟩) (.int .i64 2)).run Tryz.prog w = .ok (.int .u8 b2.toNat) w := fun w => idx_run (s := [b0, b1, b2, b3, b4, b5, b6, b7] ++ r) (k := 2) rfl w
 have r3 : ∀ w, (Instr.index 9 (.string ⟨([b0, b1, b2, b3, b4, b5, b6, b7] ++ r).toArray⟩) (.int .i64 3)).run Tryz.prog w = .ok (.int .u8 b3.toNat) w := fun w => idx_run (s := [b0, b1, b2, b3, b4, b5, b6, b7] ++ r) (k := 3) rfl w
 have r4 : ∀ w, (Instr.index 9 (.string ⟨([b0, b1, b2, b3, b4, b5, b6, b7] ++ r).toArray⟩) (.int .i64 4)).run Tryz.prog w = .ok (.int .u8 b4.toNat) w := fun w => idx_run (s := [b0, b1, b2, b3, b4, b5, b6, b7] ++ r) (k := 4) rfl w
 have r5 : ∀ w, (Instr.index 9 (.string ⟨([b0, b1, b2, b3, b4, b5, b6, b7] ++ r).toArray⟩) (.int .i64 5)).run Tryz.prog w = .ok (.int .u8 b5.toNat) w := fun w => idx_run (s := [b0, b1, b2, b3, b4, b5, b6, b7] ++ r) (k := 5) rfl w
 have r6 : ∀ w, (Instr.index 9 (.string ⟨([b0, b1, b2, b3, b4, b5, b6, b7] ++ r).toArray⟩) (.int .i64 6)).run Tryz.prog w = .ok (.int .u8 b6.toNat) w := fun w => idx_run (s := [b0, b1, b2, b3, b4, b5, b6, b7] ++ r) (k := 6) rfl w
 have r7 : ∀ w, (Instr.index 9 (.string ⟨([b0, b1, b2, b3, b4, b5, b6, b7] ++ r).toArray⟩) (.int .i64 7)).run Tryz.prog w = .ok (.int .u8 b7.toNat) w := fun w => idx_run (s := [b0, b1, b2, b3, b4, b5, b6, b7] ++ r) (k := 7) rfl w
 have HG := Lib.hid (gather_any b0 b1 b2 b3 b4 b5 b6 b7)
 have hr16 : r.length ≤ 16 := by unfold okKey at ho; simp at ho; omega
 have HCl := Lib.hid (fun w => clone_any ⟨r.toArray⟩ w (by simp [ByteArray.size]; omega))
 clear ho hc
 generalize [b0, b1, b2, b3, b4, b5, b6, b7] ++ r = L at *
 go_enter Tryz.func88, Tryz.ntmps88
 go_wp2_with (go_at_call 60; refine (HC.out _).mono ?_; rintro e w1 ⟨rfl, rfl⟩)
 refine wp_loop_rounds 9 ?_
 repeat any_goals (rw [rounds_succ]; go_wp2)
 refine wp_region_held_drew (S := fun _ => True) (by kernel_rfl) trivial (fun hH => ?_)
 refine wpAnyH_take (i := 2) (v := ?v2) rfl (by kernel_rfl) (by kernel_rfl) (by kernel_rfl) (fun _ _ _ h => h) (Or.inl ⟨by rfl, ?hy2⟩) hH ?rest2
 case hy2 => (intro W hSw; (try dsimp only at hSw); go_simp; all_goals (with_reducible rfl))
 try simp only [zzA, zzB, zzC, Act.put, zzD, zzE, zzF]
 refine wpAnyH_take (i := 3) (v := ?v3) rfl (by kernel_rfl) (by kernel_rfl) (by kernel_rfl) (fun _ _ _ h => h) (Or.inl ⟨by rfl, ?hy3⟩) hH ?rest3
 case hy3 => (intro W hSw; (try dsimp only at hSw); go_simp; all_goals (with_reducible rfl))
 try simp only [zzA, zzB, zzC, Act.put, zzD, zzE, zzF]
 refine wpAnyH_ready (rs := [0]) (by kernel_rfl) (by simp) ?_
 refine AllReadyH.cons rfl (fun K hK => ?_) AllReadyH.nil
 simp only [zzA, zzB, zzC]
 go_simp
 refine hK.out _ _ trivial (fun hH0 => ?_)
 clear hK K
 try simp only [zzA, zzB, zzC, Act.put, zzD, zzE, zzF]
 refine wpAnyH_ready (rs := [1]) (by kernel_rfl) (by simp) ?_
 refine AllReadyH.cons rfl (fun K hK => ?_) AllReadyH.nil
 simp only [zzA, zzB, zzC]
 go_simp
 (go_at_call 122; refine (HG.out _).mono ?_; rintro e w2 ⟨rfl, hb2⟩; have HB2 := Lib.hid hb2; clear hb2)
 refine hK.out _ _ trivial (fun hH1 => ?_)
 clear hK K
 try simp only [zzA, zzB, zzC, Act.put, zzD, zzE, zzF]
 refine wpAnyH_ready (rs := [4]) (by kernel_rfl) (by simp) ?_
 refine AllReadyH.cons rfl (fun K hK => ?_) AllReadyH.nil
 simp only [zzA, zzB, zzC]
 go_simp
 (go_at_call 123; refine (HCl.out _).mono ?_; rintro e w3 ⟨rfl, hb3⟩; have HB3 := Lib.hid hb3; clear hb3)
 refine hK.out _ _ trivial (fun hH4 => ?_)
 clear hK K
 try simp only [zzA, zzB, zzC, Act.put, zzD, zzE, zzF]
 refine wpAnyH_take (i := 5) (v := ?v5) rfl (by kernel_rfl) (by kernel_rfl) (by kernel_rfl) (fun _ _ _ h => h) (Or.inl ⟨by rfl, ?hy5⟩) hH4 ?rest5
 case hy5 => (intro W hSw; (try dsimp only at hSw); go_simp; all_goals (with_reducible rfl))
 try simp only [zzA, zzB, zzC, Act.put, zzD, zzE, zzF]
 have hs2 := HB2.out.size
 simp at hs2
 have c0 : w3.cell? ⟨w.heap.size, 0, none⟩ = some (.int .i64 0) := old_cell (old_cell (by simp) HB2.out) HB3.out
 have c1 : w3.cell? ⟨w.heap.size, 1, none⟩ = some (.string ⟨#[]⟩) := old_cell (old_cell (by simp) HB2.out) HB3.out
 have f0 : w3.frozen? ⟨w.heap.size, 0, none⟩ = false := by
  rw [(bcell HB3.out).2 w.heap.size 0 (by omega), (bcell HB2.out).2 w.heap.size 0 (by simp; omega)]; simp
 have f1 : w3.frozen? ⟨w.heap.size, 1, none⟩ = false := by
  rw [(bcell HB3.out).2 w.heap.size 1 (by omega), (bcell HB2.out).2 w.heap.size 1 (by simp; omega)]; simp
 have HBF : Hid (Below w.heap.size w w3) := by
  have h1 := al1 w (.cells #[.int .i64 0, .string ⟨#[]⟩] 119)
  have h2 := h1.alloc h1.size (.cells #[.int .u8 b0.toNat, .int .u8 b1.toNat, .int .u8 b2.toNat, .int .u8 b3.toNat, .int .u8 b4.toNat, .int .u8 b5.toNat, .int .u8 b6.toNat, .int .u8 b7.toNat] 205)
  exact Lib.hid ((h2.drew.trans (HB2.out.mono (by simp; omega))).trans (HB3.out.mono (by omega)))
 clear HB2 HB3 hs2
 refine wpAnyH_ready (rs := [6]) (by kernel_rfl) (by simp) ?_
 refine AllReadyH.cons rfl (fun K hK => ?_) AllReadyH.nil
 simp only [zzA, zzB, zzC]
 go_simp
 refine hK.out _ _ trivial (fun hH6 => ?_)
 clear hK K
 try simp only [zzA, zzB, zzC, Act.put, zzD, zzE, zzF]
 refine wpAnyH_take (i := 7) (v := ?v7) rfl (by kernel_rfl) (by kernel_rfl) (by kernel_rfl) (fun _ _ _ h => h) (Or.inl ⟨by rfl, ?hy7⟩) hH6 ?rest7
 case hy7 => (intro W hSw; (try dsimp only at hSw); go_simp; all_goals (with_reducible rfl))
 try simp only [zzA, zzB, zzC, Act.put, zzD, zzE, zzF]
 refine wpAnyH_done (by kernel_rfl) ?_ _
 have n1 : (⟨w.heap.size, 1, none⟩ : Addr) ≠ ⟨w.heap.size, 0, none⟩ := by simp
 have n0 : (⟨w.heap.size, 0, none⟩ : Addr) ≠ ⟨w.heap.size, 1, none⟩ := by simp
 have r0 : ((w3.setCell ⟨w.heap.size, 0, none⟩ (.int .i64 (Ky.dec [b0, b1, b2, b3, b4, b5, b6, b7]))).setCell ⟨w.heap.size, 1, none⟩ (.string ⟨r.toArray⟩)).cell? ⟨w.heap.size, 0, none⟩ = some (.int .i64 (Ky.dec [b0, b1, b2, b3, b4, b5, b6, b7])) := by
  rw [World.cell?_setCell_other (h := n1)]; exact World.cell?_setCell_same w3 ⟨w.heap.size, 0, none⟩ _ c0
 have r1 : ((w3.setCell ⟨w.heap.size, 0, none⟩ (.int .i64 (Ky.dec [b0, b1, b2, b3, b4, b5, b6, b7]))).setCell ⟨w.heap.size, 1, none⟩ (.string ⟨r.toArray⟩)).cell? ⟨w.heap.size, 1, none⟩ = some (.string ⟨r.toArray⟩) := by
  refine World.cell?_setCell_same _ _ _ (u := .string ⟨#[]⟩) ?_
  rw [World.cell?_setCell_other (h := n0)]; exact c1
 have hbz : Below w.heap.size w ((w3.setCell ⟨w.heap.size, 0, none⟩ (.int .i64 (Ky.dec [b0, b1, b2, b3, b4, b5, b6, b7]))).setCell ⟨w.heap.size, 1, none⟩ (.string ⟨r.toArray⟩)) := (HBF.out.setCell (p := ⟨w.heap.size, 0, none⟩) (Nat.le_refl _) _).setCell (p := ⟨w.heap.size, 1, none⟩) (Nat.le_refl _) _
 obtain ⟨WZ, hWZ⟩ : ∃ WZ, WZ = (w3.setCell ⟨w.heap.size, 0, none⟩ (.int .i64 (Ky.dec [b0, b1, b2, b3, b4, b5, b6, b7]))).setCell ⟨w.heap.size, 1, none⟩ (.string ⟨r.toArray⟩) := ⟨_, rfl⟩
 rw [← hWZ] at r0 r1 hbz ⊢
 clear hWZ
 clear c0 c1 f0 f1 n0 n1
 clear HC HG HCl hcut
 go_wp2
 exact bodyPost_ret (v := .tuple #[entV (Ky.dec [b0, b1, b2, b3, b4, b5, b6, b7]) r, .int .i64 0]) (by simp [results, Tryz.results88, go_sem, r0, r1]) rfl ⟨rfl, hbz⟩
end Go.Proofs.YtecnijnmgdfdhaaGreat.Ks
