/- Joined: Ok, RowsEq, Rows1, Rows2, Rows3, Rows4, Rows14, Rows15, Rows18. -/
import Derived.Test.YtecnijnmgdfdhaaGreatYRwA
import Derived.Test.YtecnijnmgdfdhaaGreatProg
import Derived.Test.YtecnijnmgdfdhaaGreatYKit
import Derived.Handy
import Derived.Lib.Strings
import Derived.Laws.StructEq
import Derived.Laws.Pointers
import Derived.Deep.QuietTactic
import Derived.BigQuiet
import Derived.Deep.RegionHeld3
namespace Go.Proofs.YtecnijnmgdfdhaaGreat.Rw
open Go.RowKit

theorem list_of (a : List UInt8) : (⟨a.toArray⟩ : ByteArray).toList = a := by rw [Lib.toList_data]
theorem str_lss (t : TypeId) (a b : List UInt8) : binOp .lss t (.string ⟨a.toArray⟩) (.string ⟨b.toArray⟩) = pure (.bool (Op.bytesLess a b)) := by
 simp [binOp, Op.stringOp, list_of]
theorem str_gtr (t : TypeId) (a b : List UInt8) : binOp .gtr t (.string ⟨a.toArray⟩) (.string ⟨b.toArray⟩) = pure (.bool (Op.bytesLess b a)) := by
 have h : (!(Op.bytesLess a b || a == b)) = Op.bytesLess b a := by
  rcases Ky.less_trich a b with h | h | h
  ·subst h; simp [Ky.less_self]
  ·simp [h, Ky.less_asymm h]
  ·have hne : (a == b) = false := by
    rw [beq_eq_false_iff_ne]; rintro rfl; rw [Ky.less_self] at h; cases h
   simp [h, Ky.less_asymm h, hne]
 simp only [binOp, Op.stringOp, list_of, h]
theorem str_geq (t : TypeId) (a b : List UInt8) : binOp .geq t (.string ⟨a.toArray⟩) (.string ⟨b.toArray⟩) = pure (.bool (!Op.bytesLess a b)) := by
 simp [binOp, Op.stringOp, list_of]
theorem str_eql (t : TypeId) (a b : List UInt8) : binOp .eql t (.string ⟨a.toArray⟩) (.string ⟨b.toArray⟩) = pure (.bool (a == b)) := by
 simp [binOp, Op.stringOp, list_of]
theorem cat_run (t : TypeId) (a b : List UInt8) (h : a.length + b.length ≤ 9223372036854775807) : binOp .add t (.string ⟨a.toArray⟩) (.string ⟨b.toArray⟩) = pure (.string ⟨(a ++ b).toArray⟩) := by
 have hsz : ∀ l : List UInt8, (⟨l.toArray⟩ : ByteArray).size = l.length := fun l => by simp [ByteArray.size]
 have happ : (⟨a.toArray⟩ : ByteArray) ++ ⟨b.toArray⟩ = ⟨(a ++ b).toArray⟩ := by
  apply ByteArray.ext
  simp
 have hm : IntKind.i64.max = 9223372036854775807 := by decide
 simp only [binOp, Op.stringOp, hsz, hm, happ]
 rw [if_neg (by omega)]
def okKey (k : List UInt8) : Bool := decide (1 ≤ k.length ∧ k.length ≤ 16)
def chk (k : List UInt8) : Int := if okKey k then 0 else 13

set_option maxHeartbeats 400000 in
theorem check_any (k : List UInt8) (w : World) :
  Calls Tryz.prog 60 #[.string ⟨k.toArray⟩] w fun e w' => e = .returned (.int .i64 (chk k)) ∧ w = w' := by
 by_cases h1 : k.length < 1
 ·have hc : chk k = 13 := by unfold chk okKey; simp; omega
  rw [hc]
  clear hc
  go_enter Tryz.func60, Tryz.ntmps60
  go_wp2
  go_ret
  exact ⟨rfl, rfl⟩
 by_cases h2 : 16 < k.length
 ·have hc : chk k = 13 := by unfold chk okKey; simp; omega
  rw [hc]
  clear hc
  go_enter Tryz.func60, Tryz.ntmps60
  go_wp2
  go_ret
  exact ⟨rfl, rfl⟩
 ·have hc : chk k = 0 := by unfold chk okKey; simp; omega
  rw [hc]
  clear hc
  go_enter Tryz.func60, Tryz.ntmps60
  go_wp2
  go_ret
  exact ⟨rfl, rfl⟩

end Go.Proofs.YtecnijnmgdfdhaaGreat.Rw

namespace Go.Proofs.YtecnijnmgdfdhaaGreat.Rw
open Go.RowKit

theorem al1 (w : World) (o : Obj) : Below w.heap.size w (w.alloc o) := (Below.refl _ _).alloc (Nat.le_refl _) _
theorem eqEntry (d : Nat) (v : Int) (s : ByteArray) (x : Int) (t : ByteArray) (w : World) : (Op.equalIn (d + 2) 119 (.agg #[.int .i64 v, .string s]) (.agg #[.int .i64 x, .string t])).run Tryz.prog w = .ok (v == x && s.toList == t.toList) w := by
 have u3 := Tryz.underlying3
 have a3 := Tryz.isAgg3
 have z3 := Tryz.sizeOf3
 have u9 := Tryz.underlying9
 have a9 := Tryz.isAgg9
 have z9 := Tryz.sizeOf9
 have hS : Tryz.prog.underlying 119 = some (.struct (Tryz.prog.fieldsOf 119)) := by kernel_rfl
 have hp : Tryz.prog.stoodInHeld 119 = false := by kernel_rfl
 rw [run_equalIn_agg w (d + 1) 119 _ _ hS hp]
 simp only [Program.fieldsOf, Tryz.underlying119]
 go_simp
 by_cases h1 : v = x <;> by_cases h2 : s.toList = t.toList <;> simp [h1, h2]
theorem eqRow (d : Nat) (a0 a1 a2 a3 b0 b1 b2 b3 : Int) (w : World) : (Op.equalIn (d + 2) 41 (.agg #[.int .i64 a0, .int .i64 a1, .int .i64 a2, .int .i64 a3]) (.agg #[.int .i64 b0, .int .i64 b1, .int .i64 b2, .int .i64 b3])).run Tryz.prog w = .ok (a0 == b0 && (a1 == b1 && (a2 == b2 && a3 == b3))) w := by
 have u3 := Tryz.underlying3
 have g3 := Tryz.isAgg3
 have z3 := Tryz.sizeOf3
 have u23 := Tryz.underlying41
 have hr : List.range' 0 4 = [0, 1, 2, 3] := rfl
 unfold Op.equalIn
 go_simp
 by_cases h1 : a0 = b0 <;> by_cases h2 : a1 = b1 <;> by_cases h3 : a2 = b2 <;> by_cases h4 : a3 = b3 <;> simp [h1, h2, h3, h4]
theorem guardRow : Tryz.prog.eqGuardType Tryz.prog.depth 41 = false := by kernel_rfl
abbrev rowV (a0 a1 a2 a3 : Int) : Value := .agg #[.int .i64 a0, .int .i64 a1, .int .i64 a2, .int .i64 a3]
theorem eqlRow (a0 a1 a2 a3 b0 b1 b2 b3 : Int) (r : Bool) (h : (a0 == b0 && (a1 == b1 && (a2 == b2 && a3 == b3))) = r) (w : World) : (binOp .eql 41 (rowV a0 a1 a2 a3) (rowV b0 b1 b2 b3)).run Tryz.prog w = .ok (.bool r) w := by
 rw [run_eql_struct, eqRow, h]; rfl
theorem neqRow (a0 a1 a2 a3 b0 b1 b2 b3 : Int) (r : Bool) (h : (a0 == b0 && (a1 == b1 && (a2 == b2 && a3 == b3))) = r) (w : World) : (binOp .neq 41 (rowV a0 a1 a2 a3) (rowV b0 b1 b2 b3)).run Tryz.prog w = .ok (.bool (!r)) w := by
 rw [run_neq_struct, eqRow, h]; rfl
end Go.Proofs.YtecnijnmgdfdhaaGreat.Rw

namespace Go.Proofs.YtecnijnmgdfdhaaGreat.Rw
open Go.RowKit

abbrev Chg := Nat × Int × Bool
def chgCol (i : Nat) (old now : Option (Nat → Int)) : List Chg := (match old with | some f => [(i, f i, false)] | none => []) ++ (match now with | some f => [(i, f i, true)] | none => [])
def keepB (i : Nat) (old now : Option (Nat → Int)) : Bool := match old, now with | some f, some g => f i == g i | _, _ => false
def chgAt (i : Nat) (old now : Option (Nat → Int)) : List Chg := if keepB i old now then [] else chgCol i old now
def chgs (k : Nat) (old now : Option (Nat → Int)) : List Chg := (List.range k).flatMap fun i => chgAt i old now
theorem chgs_succ (k : Nat) (old now : Option (Nat → Int)) : chgs (k + 1) old now = chgs k old now ++ chgAt k old now := by
 unfold chgs
 rw [List.range_succ, List.flatMap_append]
 simp
theorem chgCol_len (i : Nat) (old now : Option (Nat → Int)) : (chgCol i old now).length ≤ 2 := by
 unfold chgCol
 cases old <;> cases now <;> simp
theorem chgAt_len (i : Nat) (old now : Option (Nat → Int)) : (chgAt i old now).length ≤ 2 := by
 unfold chgAt
 split
 ·simp
 ·exact chgCol_len i old now
theorem chgs_len (k : Nat) (old now : Option (Nat → Int)) : (chgs k old now).length ≤ 2 * k := by
 induction k with
 | zero => simp [chgs]
 | succ k ih =>
  rw [chgs_succ, List.length_append]
  have := chgAt_len k old now
  omega
def chgV (k : List UInt8) (L : List Chg) : List Value := L.flatMap fun x => [.int .i64 (x.1 : Int), .int .i64 x.2.1, .string ⟨k.toArray⟩, .bool x.2.2]
theorem chgV_append (k : List UInt8) (L M : List Chg) : chgV k (L ++ M) = chgV k L ++ chgV k M := by simp [chgV]
theorem chgV_one (k : List UInt8) (L : List Chg) : ∀ u ∈ chgV k L, u.oneCell' = true := by
 intro u hu
 obtain ⟨e, _, h⟩ := List.mem_flatMap.1 hu
 simp only [List.mem_cons, List.not_mem_nil, or_false] at h
 rcases h with rfl | rfl | rfl | rfl <;> rfl
def ptrV : Option (Nat × Nat) → Value
 | none => .pointer none
 | some (b, o) => .pointer (some ⟨b, o, none⟩)
def PtrAt (w : World) : Option (Nat × Nat) → Option (Nat → Int) → Prop
 | none, none => True
 | some (b, o), some f => ∀ i, i < 4 → w.cell? ⟨b, o + i, none⟩ = some (.int .i64 (f i))
 | _, _ => False
theorem PtrAt.later {w w' : World} {p : Option (Nat × Nat)} {f : Option (Nat → Int)} (h : PtrAt w p f) (hb : Below w.heap.size w w') : PtrAt w' p f := by
 cases p <;> cases f
 ·trivial
 ·exact h.elim
 ·exact h.elim
 ·exact fun i hi => old_cell (h i hi) hb
theorem Tryz.infoChg : (Tryz.prog.info? 182).map (fun i => (i.zero, i.size, i.bytes)) = some (some (.agg #[.int .i64 0, .int .i64 0, .string ⟨#[]⟩, .bool false]), 4, 40) := by kernel_rfl
theorem and_any (w0 : World) (a : Option Addr) (n c : Nat) (xs : List Value) (a2 : Option Addr) (m c2 : Nat) (news : List Value) (hn : n + m ≤ 1000) (w : World) (hl : Loc 4 w0 w a n c xs) (hr : Rd w 4 a2 m c2 news) :
  Calls Tryz.prog 130 #[.slice a n c, .slice a2 m c2] w fun e w' => ∃ a' c', e = .returned (.slice a' (n + m) c') ∧ Loc 4 w0 w' a' (n + m) c' (xs ++ news) := by
 obtain ⟨i0, hi, hz0, hz1, hz2⟩ := info_parts Tryz.infoChg
 have HL := Lib.hid hl
 have HR := Lib.hid hr
 clear hl hr
 go_enter Tryz.func130, Tryz.ntmps130
 go_wp2_with (at_builtin; refine wpList_app_loc rfl (.tmp 5) (.tmp 6) 178 rfl 182 i0 _ 4 40 Tryz.underlying178 hi hz0 hz1 hz2 rfl (by decide) w0 a n c xs rfl HL.out a2 m c2 news rfl HR.out (n + m) (xs ++ news) rfl rfl (by unfold maxLen; omega) (by omega) ?_; intro a' c' w' ho; have HO := Lib.hid ho; clear ho)
 go_ret
 exact ⟨a', c', rfl, HO.out⟩
end Go.Proofs.YtecnijnmgdfdhaaGreat.Rw

namespace Go.Proofs.YtecnijnmgdfdhaaGreat.Rw
open Go.RowKit

theorem made4 (w : World) (i : Nat) (v : Int) (k : List UInt8) (b : Bool) (t : TypeId) : Rd (w.alloc (.cells #[.int .i64 (i : Int), .int .i64 v, .string ⟨k.toArray⟩, .bool b] t)) 4 (some ⟨w.heap.size, 0, none⟩) 1 1 (chgV k [(i, v, b)]) :=
 Rd.made w (chgV k [(i, v, b)]) t 4 1 rfl (by decide) (chgV_one _ _) (0, 0)

set_option maxHeartbeats 1000000 in
theorem column_any (i : Nat) (hi : i < 4) (k : List UInt8) (p q : Option (Nat × Nat)) (f g : Option (Nat → Int)) (w : World) (hp : PtrAt w p f) (hq : PtrAt w q g) :
  Calls Tryz.prog 131 #[.int .i64 (i : Int), .string ⟨k.toArray⟩, ptrV p, ptrV q] w fun e w' => ∃ a c, e = .returned (.slice a (chgCol i f g).length c) ∧ Loc 4 w w' a (chgCol i f g).length c (chgV k (chgCol i f g)) := by
 have hA := fun a n c xs a2 m c2 news hn w1 => and_any w a n c xs a2 m c2 news hn w1
 have HA := Lib.hid hA
 clear hA
 have hi4 : (i : Int) < 4 := by omega
 have hi0 : (0 : Int) ≤ (i : Int) := by omega
 match p, f, hp with
 | none, none, _ =>
  match q, g, hq with
  | none, none, _ =>
   unfold ptrV
   go_enter Tryz.func131, Tryz.ntmps131
   go_wp2
   go_ret
   exact ⟨none, 0, rfl, Loc.start 4 w w (Below.refl _ _)⟩
  | some (b2, o2), some g, hq =>
   unfold ptrV
   have c2 := hq i hi
   have HL := Lib.hid (Loc.start 4 w (w.alloc (.cells #[.int .i64 (i : Int), .int .i64 (g i), .string ⟨k.toArray⟩, .bool true] 182)) (al1 _ _))
   have HM := Lib.hid (made4 w i (g i) k true 182)
   clear hq
   go_enter Tryz.func131, Tryz.ntmps131
   go_wp2_with (go_at_call 130; refine (HA.out none 0 0 [] _ 1 1 (chgV k [(i, g i, true)]) (by omega) _ HL.out HM.out).mono ?_; rintro e w1 ⟨a1, c1, rfl, h1⟩; have H1 := Lib.hid h1; clear h1)
   go_ret
   exact ⟨a1, c1, rfl, H1.out⟩
 | some (b1, o1), some f, hp =>
  have c1 := hp i hi
  match q, g, hq with
  | none, none, _ =>
   unfold ptrV
   have HL := Lib.hid (Loc.start 4 w (w.alloc (.cells #[.int .i64 (i : Int), .int .i64 (f i), .string ⟨k.toArray⟩, .bool false] 182)) (al1 _ _))
   have HM := Lib.hid (made4 w i (f i) k false 182)
   clear hp
   go_enter Tryz.func131, Tryz.ntmps131
   go_wp2_with (go_at_call 130; refine (HA.out none 0 0 [] _ 1 1 (chgV k [(i, f i, false)]) (by omega) _ HL.out HM.out).mono ?_; rintro e w1 ⟨a1, c1, rfl, h1⟩; have H1 := Lib.hid h1; clear h1)
   go_ret
   exact ⟨a1, c1, rfl, H1.out⟩
  | some (b2, o2), some g, hq =>
   unfold ptrV
   have c2 := hq i hi
   have C2 := Lib.hid c2
   have HL := Lib.hid (Loc.start 4 w (w.alloc (.cells #[.int .i64 (i : Int), .int .i64 (f i), .string ⟨k.toArray⟩, .bool false] 182)) (al1 _ _))
   have HM := Lib.hid (made4 w i (f i) k false 182)
   clear hp hq c2
   have tok1 : True := trivial
   go_enter Tryz.func131, Tryz.ntmps131
   go_wp2_with (first
    | (have _t := tok1; go_at_call 130; refine (HA.out none 0 0 [] _ 1 1 (chgV k [(i, f i, false)]) (by omega) _ HL.out HM.out).mono ?_; rintro e w1 ⟨a1, c1, rfl, h1⟩; have H1 := Lib.hid h1; have c2 := old_cell C2.out h1.low; clear h1 tok1)
    | (go_at_call 130; refine (HA.out a1 1 c1 (chgV k [(i, f i, false)]) _ 1 1 (chgV k [(i, g i, true)]) (by omega) _ (H1.out.later (al1 _ _)) (made4 w1 i (g i) k true 182)).mono ?_; rintro e w2 ⟨a2, c3, rfl, h2⟩; have H2 := Lib.hid h2; clear h2))
   go_ret
   exact ⟨a2, c3, rfl, H2.out⟩
end Go.Proofs.YtecnijnmgdfdhaaGreat.Rw

namespace Go.Proofs.YtecnijnmgdfdhaaGreat.Rw
open Go.RowKit

theorem chgAt_no {i : Nat} {f g : Option (Nat → Int)} (h : keepB i f g = false) : chgAt i f g = chgCol i f g := by unfold chgAt; rw [h]; rfl
theorem chgAt_yes {i : Nat} {f g : Option (Nat → Int)} (h : keepB i f g = true) : chgAt i f g = [] := by unfold chgAt; rw [if_pos h]
theorem chgs_same {f g : Nat → Int} (h : ∀ i, i < 4 → f i = g i) : chgs 4 (some f) (some g) = [] := by
 unfold chgs
 rw [List.flatMap_eq_nil_iff]
 intro i hi
 exact chgAt_yes (by unfold keepB; simp [h i (List.mem_range.1 hi)])
def GivesC (w : World) (k : List UInt8) (f g : Option (Nat → Int)) (e : Ending) (w' : World) : Prop := ∃ a c, e = .returned (.tuple #[.slice a (chgs 4 f g).length c, .int .i64 0]) ∧ Loc 4 w w' a (chgs 4 f g).length c (chgV k (chgs 4 f g))

set_option maxHeartbeats 2000000 in
theorem changes_nn (k : List UInt8) (h : okKey k = true) (w : World) :
  Calls Tryz.prog 98 #[.string ⟨k.toArray⟩, .pointer none, .pointer none] w (GivesC w k (none) (none)) := by
 have hc : chk k = 0 := by unfold chk; rw [h]; rfl
 have HC := Lib.hid (check_any k)
 rw [hc] at HC
 have HK := Lib.hid (fun (i : Nat) hi w1 hp hq => column_any i hi k (none) (none) (none) (none) w1 hp hq)
 have HP : Hid (PtrAt w (none) (none) ∧ PtrAt w (none) (none)) := Lib.hid ⟨trivial, trivial⟩
 have HA := Lib.hid (fun a n c xs a2 m c2 news hn w1 => and_any w a n c xs a2 m c2 news hn w1)
 clear hc h
 go_enter Tryz.func98, Tryz.ntmps98
 go_wp2_with (go_at_call 60; refine (HC.out _).mono ?_; rintro e w' ⟨rfl, rfl⟩)
 go_quiet (fail)
 go_wp2
 go_loopw [10, 33] (fun s i wr => ∃ (n : Nat) (a : Option Addr) (c : Nat), n ≤ 4 ∧ i = .int .i64 n ∧ s = .slice a (chgs n (none) (none)).length c ∧
  Hid (Loc 4 w wr a (chgs n (none) (none)).length c (chgV k (chgs n (none) (none))))) (fun _ i _ => 4 - (intOf i).toNat)
 case atStart => exact ⟨0, none, 0, by omega, rfl, rfl, Lib.hid (Loc.start 4 w _ ⟨rfl, rfl, rfl, Nat.le_refl _, fun _ _ => rfl⟩)⟩
 case round =>
  obtain ⟨n, a, c, hn, rfl, rfl, HL⟩ := hrel
  by_cases hlt : n < 4
  ·have hi4 : (n : Int) < 4 := by omega
   have hi0 : (0 : Int) ≤ (n : Int) := by omega
   have hl1 := chgs_len n (none) (none)
   have hl2 := chgCol_len n (none) (none)
   have hkeep : keepB n (none) (none) = false := by unfold keepB; rfl
   have HS : Hid (chgs (n + 1) (none) (none) = chgs n (none) (none) ++ chgCol n (none) (none)) := Lib.hid (by rw [chgs_succ, chgAt_no hkeep])
   clear hkeep
   go_wp2
   go_quiet (fail)
   have HD := Lib.hid (HL.out.later (w' := wr.drewN nq) ⟨rfl, rfl, rfl, Nat.le_refl _, fun _ _ => rfl⟩)
   go_wp2_with (first
    | (go_at_call 131; refine (HK.out n hlt _ (HP.out.1.later HD.out.low) (HP.out.2.later HD.out.low)).mono ?_; rintro e w1 ⟨a1, d1, rfl, h1⟩; have H1 := Lib.hid (And.intro (HD.out.later (h1.low)) h1.rd); clear h1)
    | (go_at_call 130; refine (HA.out a _ c _ a1 _ d1 _ (by omega) _ H1.out.1 H1.out.2).mono ?_; rintro e w2 ⟨a2, d2, rfl, h2⟩; have H2 := Lib.hid h2; clear h2))
   go_roundw
   case rel =>
    have h2 := H2.out
    rw [← chgV_append, ← List.length_append, ← HS.out] at h2
    exact ⟨n + 1, a2, d2, by omega, by go_num, by rw [HS.out, List.length_append], Lib.hid h2⟩
   case measure => simp [intOf]; omega
  ·obtain rfl : n = 4 := by omega
   go_wp2
   go_ret2
   exact ⟨a, c, rfl, HL.out⟩

set_option maxHeartbeats 2000000 in
theorem changes_sn (k : List UInt8) (h : okKey k = true) (b1 o1 : Nat) (f : Nat → Int) (w : World) (hp : PtrAt w (some (b1, o1)) (some f)) :
  Calls Tryz.prog 98 #[.string ⟨k.toArray⟩, .pointer (some ⟨b1, o1, none⟩), .pointer none] w (GivesC w k (some f) (none)) := by
 have hc : chk k = 0 := by unfold chk; rw [h]; rfl
 have HC := Lib.hid (check_any k)
 rw [hc] at HC
 have HK := Lib.hid (fun (i : Nat) hi w1 hp hq => column_any i hi k (some (b1, o1)) (none) (some f) (none) w1 hp hq)
 have HP : Hid (PtrAt w (some (b1, o1)) (some f) ∧ PtrAt w (none) (none)) := Lib.hid ⟨hp, trivial⟩
 have HA := Lib.hid (fun a n c xs a2 m c2 news hn w1 => and_any w a n c xs a2 m c2 news hn w1)
 clear hc h hp
 go_enter Tryz.func98, Tryz.ntmps98
 go_wp2_with (go_at_call 60; refine (HC.out _).mono ?_; rintro e w' ⟨rfl, rfl⟩)
 go_quiet (fail)
 go_wp2
 go_loopw [10, 33] (fun s i wr => ∃ (n : Nat) (a : Option Addr) (c : Nat), n ≤ 4 ∧ i = .int .i64 n ∧ s = .slice a (chgs n (some f) (none)).length c ∧
  Hid (Loc 4 w wr a (chgs n (some f) (none)).length c (chgV k (chgs n (some f) (none))))) (fun _ i _ => 4 - (intOf i).toNat)
 case atStart => exact ⟨0, none, 0, by omega, rfl, rfl, Lib.hid (Loc.start 4 w _ ⟨rfl, rfl, rfl, Nat.le_refl _, fun _ _ => rfl⟩)⟩
 case round =>
  obtain ⟨n, a, c, hn, rfl, rfl, HL⟩ := hrel
  by_cases hlt : n < 4
  ·have hi4 : (n : Int) < 4 := by omega
   have hi0 : (0 : Int) ≤ (n : Int) := by omega
   have hl1 := chgs_len n (some f) (none)
   have hl2 := chgCol_len n (some f) (none)
   have hkeep : keepB n (some f) (none) = false := by unfold keepB; rfl
   have HS : Hid (chgs (n + 1) (some f) (none) = chgs n (some f) (none) ++ chgCol n (some f) (none)) := Lib.hid (by rw [chgs_succ, chgAt_no hkeep])
   clear hkeep
   go_wp2
   go_quiet (fail)
   have HD := Lib.hid (HL.out.later (w' := wr.drewN nq) ⟨rfl, rfl, rfl, Nat.le_refl _, fun _ _ => rfl⟩)
   go_wp2_with (first
    | (go_at_call 131; refine (HK.out n hlt _ (HP.out.1.later HD.out.low) (HP.out.2.later HD.out.low)).mono ?_; rintro e w1 ⟨a1, d1, rfl, h1⟩; have H1 := Lib.hid (And.intro (HD.out.later (h1.low)) h1.rd); clear h1)
    | (go_at_call 130; refine (HA.out a _ c _ a1 _ d1 _ (by omega) _ H1.out.1 H1.out.2).mono ?_; rintro e w2 ⟨a2, d2, rfl, h2⟩; have H2 := Lib.hid h2; clear h2))
   go_roundw
   case rel =>
    have h2 := H2.out
    rw [← chgV_append, ← List.length_append, ← HS.out] at h2
    exact ⟨n + 1, a2, d2, by omega, by go_num, by rw [HS.out, List.length_append], Lib.hid h2⟩
   case measure => simp [intOf]; omega
  ·obtain rfl : n = 4 := by omega
   go_wp2
   go_ret2
   exact ⟨a, c, rfl, HL.out⟩

set_option maxHeartbeats 2000000 in
theorem changes_ns (k : List UInt8) (h : okKey k = true) (b2 o2 : Nat) (g : Nat → Int) (w : World) (hq : PtrAt w (some (b2, o2)) (some g)) :
  Calls Tryz.prog 98 #[.string ⟨k.toArray⟩, .pointer none, .pointer (some ⟨b2, o2, none⟩)] w (GivesC w k (none) (some g)) := by
 have hc : chk k = 0 := by unfold chk; rw [h]; rfl
 have HC := Lib.hid (check_any k)
 rw [hc] at HC
 have HK := Lib.hid (fun (i : Nat) hi w1 hp hq => column_any i hi k (none) (some (b2, o2)) (none) (some g) w1 hp hq)
 have HP : Hid (PtrAt w (none) (none) ∧ PtrAt w (some (b2, o2)) (some g)) := Lib.hid ⟨trivial, hq⟩
 have HA := Lib.hid (fun a n c xs a2 m c2 news hn w1 => and_any w a n c xs a2 m c2 news hn w1)
 clear hc h hq
 go_enter Tryz.func98, Tryz.ntmps98
 go_wp2_with (go_at_call 60; refine (HC.out _).mono ?_; rintro e w' ⟨rfl, rfl⟩)
 go_quiet (fail)
 go_wp2
 go_loopw [10, 33] (fun s i wr => ∃ (n : Nat) (a : Option Addr) (c : Nat), n ≤ 4 ∧ i = .int .i64 n ∧ s = .slice a (chgs n (none) (some g)).length c ∧
  Hid (Loc 4 w wr a (chgs n (none) (some g)).length c (chgV k (chgs n (none) (some g))))) (fun _ i _ => 4 - (intOf i).toNat)
 case atStart => exact ⟨0, none, 0, by omega, rfl, rfl, Lib.hid (Loc.start 4 w _ ⟨rfl, rfl, rfl, Nat.le_refl _, fun _ _ => rfl⟩)⟩
 case round =>
  obtain ⟨n, a, c, hn, rfl, rfl, HL⟩ := hrel
  by_cases hlt : n < 4
  ·have hi4 : (n : Int) < 4 := by omega
   have hi0 : (0 : Int) ≤ (n : Int) := by omega
   have hl1 := chgs_len n (none) (some g)
   have hl2 := chgCol_len n (none) (some g)
   have hkeep : keepB n (none) (some g) = false := by unfold keepB; rfl
   have HS : Hid (chgs (n + 1) (none) (some g) = chgs n (none) (some g) ++ chgCol n (none) (some g)) := Lib.hid (by rw [chgs_succ, chgAt_no hkeep])
   clear hkeep
   go_wp2
   go_quiet (fail)
   have HD := Lib.hid (HL.out.later (w' := wr.drewN nq) ⟨rfl, rfl, rfl, Nat.le_refl _, fun _ _ => rfl⟩)
   go_wp2_with (first
    | (go_at_call 131; refine (HK.out n hlt _ (HP.out.1.later HD.out.low) (HP.out.2.later HD.out.low)).mono ?_; rintro e w1 ⟨a1, d1, rfl, h1⟩; have H1 := Lib.hid (And.intro (HD.out.later (h1.low)) h1.rd); clear h1)
    | (go_at_call 130; refine (HA.out a _ c _ a1 _ d1 _ (by omega) _ H1.out.1 H1.out.2).mono ?_; rintro e w2 ⟨a2, d2, rfl, h2⟩; have H2 := Lib.hid h2; clear h2))
   go_roundw
   case rel =>
    have h2 := H2.out
    rw [← chgV_append, ← List.length_append, ← HS.out] at h2
    exact ⟨n + 1, a2, d2, by omega, by go_num, by rw [HS.out, List.length_append], Lib.hid h2⟩
   case measure => simp [intOf]; omega
  ·obtain rfl : n = 4 := by omega
   go_wp2
   go_ret2
   exact ⟨a, c, rfl, HL.out⟩

set_option maxHeartbeats 2000000 in
theorem changes_ss (k : List UInt8) (h : okKey k = true) (b1 o1 b2 o2 : Nat) (f g : Nat → Int) (w : World) (hp : PtrAt w (some (b1, o1)) (some f)) (hq : PtrAt w (some (b2, o2)) (some g)) :
  Calls Tryz.prog 98 #[.string ⟨k.toArray⟩, .pointer (some ⟨b1, o1, none⟩), .pointer (some ⟨b2, o2, none⟩)] w (GivesC w k (some f) (some g)) := by
 have hc : chk k = 0 := by unfold chk; rw [h]; rfl
 have HC := Lib.hid (check_any k)
 rw [hc] at HC
 have HK := Lib.hid (fun (i : Nat) hi w1 hp hq => column_any i hi k (some (b1, o1)) (some (b2, o2)) (some f) (some g) w1 hp hq)
 have HP : Hid (PtrAt w (some (b1, o1)) (some f) ∧ PtrAt w (some (b2, o2)) (some g)) := Lib.hid ⟨hp, hq⟩
 have HA := Lib.hid (fun a n c xs a2 m c2 news hn w1 => and_any w a n c xs a2 m c2 news hn w1)
 clear hc h
 have c0 := hp 0 (by omega)
 have c1 := hp 1 (by omega)
 have c2 := hp 2 (by omega)
 have c3 := hp 3 (by omega)
 have d0 := hq 0 (by omega)
 have d1 := hq 1 (by omega)
 have d2 := hq 2 (by omega)
 have d3 := hq 3 (by omega)
 rw [Nat.add_zero] at c0 d0
 have hgr := guardRow
 have HQ := Lib.hid (And.intro hp hq)
 clear hp hq
 by_cases hall : f 0 = g 0 ∧ f 1 = g 1 ∧ f 2 = g 2 ∧ f 3 = g 3
 ·have heq := eqlRow (f 0) (f 1) (f 2) (f 3) (g 0) (g 1) (g 2) (g 3) true (by simp [hall])
  have hnil : chgs 4 (some f) (some g) = [] := chgs_same (by
   intro i hi
   match i, hi with
   | 0, _ => exact hall.1
   | 1, _ => exact hall.2.1
   | 2, _ => exact hall.2.2.1
   | 3, _ => exact hall.2.2.2)
  have HN := Lib.hid hnil
  clear hnil hall
  go_enter Tryz.func98, Tryz.ntmps98
  go_wp2_with (go_at_call 60; refine (HC.out _).mono ?_; rintro e w' ⟨rfl, rfl⟩)
  go_quiet (fail)
  go_wp2
  go_ret2
  unfold GivesC
  rw [HN.out]
  exact ⟨none, 0, rfl, Loc.start 4 w _ ⟨rfl, rfl, rfl, Nat.le_refl _, fun _ _ => rfl⟩⟩
 ·have heq := eqlRow (f 0) (f 1) (f 2) (f 3) (g 0) (g 1) (g 2) (g 3) false (by
   rw [Bool.eq_false_iff]; intro h; apply hall; simpa using h)
  clear hall
  go_enter Tryz.func98, Tryz.ntmps98
  go_wp2_with (go_at_call 60; refine (HC.out _).mono ?_; rintro e w' ⟨rfl, rfl⟩)
  go_quiet (fail)
  go_wp2
  clear c0 c1 c2 c3 d0 d1 d2 d3 heq
  go_loopw [10, 33] (fun s i wr => ∃ (n : Nat) (a : Option Addr) (c : Nat), n ≤ 4 ∧ i = .int .i64 n ∧ s = .slice a (chgs n (some f) (some g)).length c ∧
   Hid (Loc 4 w wr a (chgs n (some f) (some g)).length c (chgV k (chgs n (some f) (some g))))) (fun _ i _ => 4 - (intOf i).toNat)
  case atStart => exact ⟨0, none, 0, by omega, rfl, rfl, Lib.hid (Loc.start 4 w _ ⟨rfl, rfl, rfl, Nat.le_refl _, fun _ _ => rfl⟩)⟩
  case round =>
   obtain ⟨n, a, c, hn, rfl, rfl, HL⟩ := hrel
   by_cases hlt : n < 4
   ·have hi4 : (n : Int) < 4 := by omega
    have hi0 : (0 : Int) ≤ (n : Int) := by omega
    have hl1 := chgs_len n (some f) (some g)
    have hl2 := chgCol_len n (some f) (some g)
    have x1 := old_cell (HQ.out.1 n hlt) HL.out.low
    have x2 := old_cell (HQ.out.2 n hlt) HL.out.low
    by_cases hfg : f n = g n
    ·have HS : Hid (chgs (n + 1) (some f) (some g) = chgs n (some f) (some g)) := Lib.hid (by rw [chgs_succ, chgAt_yes (by unfold keepB; simp [hfg]), List.append_nil])
     have hb : (f n == g n) = true := by simp [hfg]
     clear hfg
     go_wp2
     go_quiet (fail)
     go_wp2
     go_roundw
     case rel => exact ⟨n + 1, a, c, by omega, by go_num, by rw [HS.out], Lib.hid (by rw [HS.out]; exact HL.out.later ⟨rfl, rfl, rfl, Nat.le_refl _, fun _ _ => rfl⟩)⟩
     case measure => simp [intOf]; omega
    ·have hb : (f n == g n) = false := by simp [hfg]
     have hkeep : keepB n (some f) (some g) = false := by unfold keepB; exact hb
     have HS : Hid (chgs (n + 1) (some f) (some g) = chgs n (some f) (some g) ++ chgCol n (some f) (some g)) := Lib.hid (by rw [chgs_succ, chgAt_no hkeep])
     clear hkeep hfg
     go_wp2
     go_quiet (fail)
     have HD := Lib.hid (HL.out.later (w' := wr.drewN nq) ⟨rfl, rfl, rfl, Nat.le_refl _, fun _ _ => rfl⟩)
     go_wp2_with (first
      | (go_at_call 131; refine (HK.out n hlt _ (HP.out.1.later HD.out.low) (HP.out.2.later HD.out.low)).mono ?_; rintro e w1 ⟨a1, d1, rfl, h1⟩; have H1 := Lib.hid (And.intro (HD.out.later (h1.low)) h1.rd); clear h1)
      | (go_at_call 130; refine (HA.out a _ c _ a1 _ d1 _ (by omega) _ H1.out.1 H1.out.2).mono ?_; rintro e w2 ⟨a2, d2, rfl, h2⟩; have H2 := Lib.hid h2; clear h2))
     go_roundw
     case rel =>
      have h2 := H2.out
      rw [← chgV_append, ← List.length_append, ← HS.out] at h2
      exact ⟨n + 1, a2, d2, by omega, by go_num, by rw [HS.out, List.length_append], Lib.hid h2⟩
     case measure => simp [intOf]; omega
   ·obtain rfl : n = 4 := by omega
    go_wp2
    go_ret2
    exact ⟨a, c, rfl, HL.out⟩

theorem changes_good (k : List UInt8) (h : okKey k = true) (p q : Option (Nat × Nat)) (f g : Option (Nat → Int)) (w : World) (hp : PtrAt w p f) (hq : PtrAt w q g) :
  Calls Tryz.prog 98 #[.string ⟨k.toArray⟩, ptrV p, ptrV q] w (GivesC w k f g) := by
 match p, f, hp with
 | none, none, _ =>
  match q, g, hq with
  | none, none, _ => exact changes_nn k h w
  | some (b2, o2), some g, hq => exact changes_ns k h b2 o2 g w hq
 | some (b1, o1), some f, hp =>
  match q, g, hq with
  | none, none, _ => exact changes_sn k h b1 o1 f w hp
  | some (b2, o2), some g, hq => exact changes_ss k h b1 o1 b2 o2 f g w hp hq
end Go.Proofs.YtecnijnmgdfdhaaGreat.Rw

namespace Go.Proofs.YtecnijnmgdfdhaaGreat.Rw
open Go.RowKit

def encR (f : Nat → Int) : Nat → List UInt8
 | 0 => []
 | k + 1 => encR f k ++ Fd.grp (Fd.zig (f k))
def rowF (a0 a1 a2 a3 : Int) : Nat → Int
 | 0 => a0
 | 1 => a1
 | 2 => a2
 | _ => a3
def InR (f : Nat → Int) : Prop := ∀ i, Fd.In (f i)
theorem encR_len {f : Nat → Int} (hf : InR f) (k : Nat) : (encR f k).length ≤ 10 * k := by
 induction k with
 | zero => simp [encR]
 | succ k ih =>
  rw [encR, List.length_append]
  have := Fd.grp_ten (Fd.zig_lt (hf k))
  omega
def RowAt (w : World) (b o : Nat) (f : Nat → Int) : Prop := ∀ i, i < 4 → w.cell? ⟨b, o + i, none⟩ = some (.int .i64 (f i))
theorem RowAt.made (w : World) (a0 a1 a2 a3 : Int) (t : TypeId) : RowAt (w.alloc (.cells #[.int .i64 a0, .int .i64 a1, .int .i64 a2, .int .i64 a3] t)) w.heap.size 0 (rowF a0 a1 a2 a3) := by
 intro i hi
 match i, hi with
 | 0, _ => simp [rowF]
 | 1, _ => simp [rowF]
 | 2, _ => simp [rowF]
 | 3, _ => simp [rowF]
theorem RowAt.later {w w' : World} {b o : Nat} {f : Nat → Int} (h : RowAt w b o f) (hb : Below w.heap.size w w') : RowAt w' b o f := fun i hi => old_cell (h i hi) hb

theorem Wr.made (w : World) (t : TypeId) : Wr (w.alloc (.cells #[.slice none 0 0] t)) w.heap.size noCells none 0 [] :=
 ⟨by simp, by simp, Sl.none_ _ 1, fun _ _ h => h.elim, fun _ h => h⟩

set_option maxRecDepth 100000 in
set_option maxHeartbeats 1000000 in
theorem encode_any (a0 a1 a2 a3 : Int) (hf : InR (rowF a0 a1 a2 a3)) (w : World) :
  Calls Tryz.prog 69 #[rowV a0 a1 a2 a3] w fun e w' => GivesB w (encR (rowF a0 a1 a2 a3) 4) e w' := by
 have hmf : ∀ (fn : Fn) (first cap : Array Value) (w : World), (Instr.makeFunc fn first cap).run Tryz.prog w = .ok (.func fn first cap) w := fun _ _ _ _ => rfl
 have HI := Lib.hid (fun n g G a c bs hb w1 hw => wInt_any g G a c bs (rowF a0 a1 a2 a3 n) (hf n) hb w1 hw)
 have HL := Lib.hid (encR_len hf)
 have HR := Lib.hid (RowAt.made w a0 a1 a2 a3 41)
 have HB := Lib.hid ((Below.refl w.heap.size w).alloc (Nat.le_refl _) (.cells #[.int .i64 a0, .int .i64 a1, .int .i64 a2, .int .i64 a3] 41))
 have HZ : Hid ((w.alloc (.cells #[.int .i64 a0, .int .i64 a1, .int .i64 a2, .int .i64 a3] 41)).heap.size = w.heap.size + 1) := Lib.hid (by simp)
 have HW := Lib.hid (Wr.made (w.alloc (.cells #[.int .i64 a0, .int .i64 a1, .int .i64 a2, .int .i64 a3] 41)) 175)
 clear hf
 generalize rowF a0 a1 a2 a3 = f at *
 go_enter Tryz.func69, Tryz.ntmps69
 go_wp2
 rw [HZ.out] at HW
 generalize w.alloc (.cells #[.int .i64 a0, .int .i64 a1, .int .i64 a2, .int .i64 a3] 41) = W at *
 have HA := Lib.hid (al1 W (.cells #[.slice none 0 0] 175))
 generalize W.alloc (.cells #[.slice none 0 0] 175) = W2 at *
 go_loopw [7] (fun i wr => ∃ (n : Nat) (a : Option Addr) (c : Nat) (G : Foot), n ≤ 4 ∧ i = .int .i64 n ∧ Hid (Wr wr (w.heap.size + 1) G a c (encR f n) ∧ Fr (wf (w.heap.size + 1) noCells) W2 wr ∧ Grew W2 noCells G)) (fun i _ => 4 - (intOf i).toNat)
 case atStart => exact ⟨0, none, 0, noCells, by omega, rfl, Lib.hid ⟨HW.out, Fr.refl _ _, Grew.refl _ _⟩⟩
 case round =>
  obtain ⟨n, a, c, G, hn, rfl, HS⟩ := hrel
  by_cases hlt : n < 4
  ·have hx : wr.cell? ⟨w.heap.size, n, none⟩ = some (.int .i64 (f n)) := by
    have := cell_fr HS.out.2.1 (old_cell ((HR.out n hlt)) HA.out) (S := wf (w.heap.size + 1) noCells) (b := w.heap.size) (o := 0 + n) (fun h => by
     rcases h with h | h
     ·omega
     ·exact h)
    rwa [Nat.zero_add] at this
   have hl := HL.out n
   have hi4 : (n : Int) < 4 := by omega
   have hi0 : (0 : Int) ≤ (n : Int) := by omega
   go_wp2_with (go_at_call 96; refine (HI.out n _ G a c _ (by omega) _ HS.out.1).mono ?_; rintro e w1 ⟨rfl, hw⟩; have H1 := Lib.hid hw; clear hw)
   obtain ⟨a2, c2, G2, h1⟩ := H1.out
   have H2 := Lib.hid h1
   clear h1
   go_roundw
   case rel => exact ⟨n + 1, a2, c2, G2, by omega, by go_num, Lib.hid ⟨H2.out.1, HS.out.2.1.trans H2.out.2.1 (fun b o h => by
    rcases h with h | h
    ·exact .inl (.inl h)
    ·rcases HS.out.2.2 b o h with h | h
     ·exact h.elim
     ·exact .inr h), HS.out.2.2.trans H2.out.2.2 HS.out.2.1.size⟩⟩
   case measure => simp [intOf]; omega
  ·obtain rfl : n = 4 := by omega
   have hl := HL.out 4
   have HC := Lib.hid (wBytes_any (w.heap.size + 1) G a c (encR f 4) (by omega) wr HS.out.1)
   have HF := Lib.hid (HS.out.2.1.below (B := w.heap.size) (by have := HB.out.size; have := HA.out.size; omega) (fun b o h => by
    rcases h with h | h
    ·omega
    ·exact h.elim))
   go_wp2_with (go_at_call 97; refine HC.out.mono ?_; rintro e w1 ⟨a1, c1, rfl, hrd, hb⟩; have H1 := Lib.hid (And.intro hrd hb); clear hrd hb)
   go_ret
   have h0 := HB.out.trans (HA.out.mono HB.out.size)
   have h2 := h0.trans HF.out
   exact ⟨_, _, rfl, H1.out.1, h2.trans (H1.out.2.mono h2.size)⟩
end Go.Proofs.YtecnijnmgdfdhaaGreat.Rw

namespace Go.Proofs.YtecnijnmgdfdhaaGreat.Rw
open Go.RowKit
namespace Fd
def dec (B : List UInt8) : Nat → Option (Nat × List Int)
 | 0 => some (0, [])
 | k + 1 => match dec B k with
  | none => none
  | some p => match parse 0 (B.drop p.1) with
   | none => none
   | some q => some (p.1 + q.2, p.2 ++ [zag q.1])
theorem dec_none {B : List UInt8} {k : Nat} (h : dec B k = none) (j : Nat) : dec B (k + j) = none := by
 induction j with
 | zero => exact h
 | succ j ih => rw [← Nat.add_assoc, dec, ih]
theorem dec_stop {B : List UInt8} {k at_ : Nat} {l : List Int} (h : dec B k = some (at_, l)) (hp : parse 0 (B.drop at_) = none) (hk : k < 4) : dec B 4 = none := by
 have h1 : dec B (k + 1) = none := by rw [dec, h]; simp only; rw [hp]
 have := dec_none h1 (3 - k)
 rwa [show k + 1 + (3 - k) = 4 by omega] at this
theorem dec_next {B : List UInt8} {k at_ : Nat} {l : List Int} {m c : Nat} (h : dec B k = some (at_, l)) (hp : parse 0 (B.drop at_) = some (m, c)) : dec B (k + 1) = some (at_ + c, l ++ [zag m]) := by
 rw [dec, h]; simp only; rw [hp]
def row (B : List UInt8) : Option (List Int) := match dec B 4 with
 | none => none
 | some p => if p.1 = B.length then some p.2 else none
def rowL : Option (List Int) → List Int
 | none => []
 | some l => l
theorem row_none {B : List UInt8} (h : dec B 4 = none) : row B = none := by unfold row; rw [h]
theorem row_some {B : List UInt8} {at_ : Nat} {l : List Int} (h : dec B 4 = some (at_, l)) (e : at_ = B.length) : row B = some l := by unfold row; rw [h]; exact if_pos e
theorem row_more {B : List UInt8} {at_ : Nat} {l : List Int} (h : dec B 4 = some (at_, l)) (e : at_ ≠ B.length) : row B = none := by unfold row; rw [h]; exact if_neg e
end Fd
theorem getD_snoc (l : List Int) (v : Int) (i : Nat) : (l ++ [v]).getD i 0 = if i = l.length then v else l.getD i 0 := by
 simp only [List.getD_eq_getElem?_getD]
 by_cases h : i < l.length
 ·rw [List.getElem?_append_left h, if_neg (by omega)]
 ·by_cases h2 : i = l.length
  ·subst h2
   rw [if_pos rfl, List.getElem?_append_right (Nat.le_refl _), Nat.sub_self]
   rfl
  ·rw [if_neg h2, List.getElem?_eq_none (by simp; omega), List.getElem?_eq_none (by omega)]
def lRow (l : List Int) : Value := .agg #[.int .i64 (l.getD 0 0), .int .i64 (l.getD 1 0), .int .i64 (l.getD 2 0), .int .i64 (l.getD 3 0)]
def RowVar (w : World) (r : Nat) (l : List Int) : Prop := ∀ i, i < 4 → w.cell? ⟨r, i, none⟩ = some (.int .i64 (l.getD i 0)) ∧ w.frozen? ⟨r, i, none⟩ = false
theorem RowVar.fr {S : Foot} {w w' : World} {r : Nat} {l : List Int} (h : RowVar w r l) (hf : Fr S w w') (hs : ∀ o, ¬ S r o) : RowVar w' r l := fun i hi =>
 ⟨cell_fr hf (h i hi).1 (hs i), (hf.froz r i (block_of_cell (h i hi).1) (hs i)).trans (h i hi).2⟩
theorem RowVar.later {w w' : World} {r : Nat} {l : List Int} (h : RowVar w r l) (hb : Below w.heap.size w w') : RowVar w' r l := h.fr (Fr.ofBelow hb noCells) (fun _ h => h)
theorem RowVar.made (w : World) (t : TypeId) : RowVar (w.alloc (.cells #[.int .i64 0, .int .i64 0, .int .i64 0, .int .i64 0] t)) w.heap.size [] := fun i hi => by
 have : i = 0 ∨ i = 1 ∨ i = 2 ∨ i = 3 := by omega
 rcases this with rfl | rfl | rfl | rfl <;> exact ⟨by simp, by simp⟩
theorem RowVar.put {w : World} {r : Nat} {l : List Int} (h : RowVar w r l) (hl : l.length < 4) (v : Int) : RowVar (w.setCell ⟨r, l.length, none⟩ (.int .i64 v)) r (l ++ [v]) ∧ Fr (fun k _ => k = r) w (w.setCell ⟨r, l.length, none⟩ (.int .i64 v)) := by
 have hf : Fr (fun k o => k = r ∧ o = l.length) w (w.setCell ⟨r, l.length, none⟩ (.int .i64 v)) := (Fr.refl _ w).setCell (.inl ⟨rfl, rfl⟩) _
 refine ⟨fun i hi => ⟨?_, by rw [World.frozen?_setCell]; exact (h i hi).2⟩, hf.mono (fun _ _ h => h.1)⟩
 rw [getD_snoc]
 by_cases e : i = l.length
 ·subst e
  rw [if_pos rfl]
  exact World.cell?_setCell_same _ _ _ (h l.length hi).1
 ·rw [if_neg e]
  exact cell_fr hf (h i hi).1 (fun h => e h.2)
end Go.Proofs.YtecnijnmgdfdhaaGreat.Rw

namespace Go.Proofs.YtecnijnmgdfdhaaGreat.Rw
open Go.RowKit
theorem left_B (g : Nat) (a : Option Addr) (c : Nat) (B : List UInt8) (at_ : Nat) (hl : B.length ≤ 1000000) (w : World) (h : Rdr w g a c B at_) :
  Calls Tryz.prog 118 #[.pointer (some ⟨g, 0, none⟩)] w fun e w' => e = .returned (.int .i64 ((B.length : Int) - (at_ : Int))) ∧ Below w.heap.size w w' :=
 (left_any g a c B at_ w h hl).mono fun e w' ⟨e1, n, e2⟩ => ⟨e1, e2 ▸ drewN_below w n⟩
def rE : Option (List Int) → Int
 | none => 11
 | some _ => 0
theorem four_set (w : World) (B : Nat) (l : List Int) (x y z u : Value) (h : RowVar w B l) :
  ((((w.setCell ⟨B, 0, none⟩ x).setCell ⟨B, 1, none⟩ y).setCell ⟨B, 2, none⟩ z).setCell ⟨B, 3, none⟩ u).cell? ⟨B, 0, none⟩ = some x ∧ ((((w.setCell ⟨B, 0, none⟩ x).setCell ⟨B, 1, none⟩ y).setCell ⟨B, 2, none⟩ z).setCell ⟨B, 3, none⟩ u).cell? ⟨B, 1, none⟩ = some y ∧
  ((((w.setCell ⟨B, 0, none⟩ x).setCell ⟨B, 1, none⟩ y).setCell ⟨B, 2, none⟩ z).setCell ⟨B, 3, none⟩ u).cell? ⟨B, 2, none⟩ = some z ∧ ((((w.setCell ⟨B, 0, none⟩ x).setCell ⟨B, 1, none⟩ y).setCell ⟨B, 2, none⟩ z).setCell ⟨B, 3, none⟩ u).cell? ⟨B, 3, none⟩ = some u := by
 have h0 := (h 0 (by omega)).1
 have h1 := (h 1 (by omega)).1
 have h2 := (h 2 (by omega)).1
 have h3 := (h 3 (by omega)).1
 have a0 : (w.setCell ⟨B, 0, none⟩ x).cell? ⟨B, 0, none⟩ = some x := World.cell?_setCell_same _ _ _ h0
 have a1 := (World.cell?_setCell_other w ⟨B, 0, none⟩ ⟨B, 1, none⟩ x (by simp)).trans h1
 have a2 := (World.cell?_setCell_other w ⟨B, 0, none⟩ ⟨B, 2, none⟩ x (by simp)).trans h2
 have a3 := (World.cell?_setCell_other w ⟨B, 0, none⟩ ⟨B, 3, none⟩ x (by simp)).trans h3
 generalize w.setCell ⟨B, 0, none⟩ x = w1 at *
 have b0 := (World.cell?_setCell_other w1 ⟨B, 1, none⟩ ⟨B, 0, none⟩ y (by simp)).trans a0
 have b1 : (w1.setCell ⟨B, 1, none⟩ y).cell? ⟨B, 1, none⟩ = some y := World.cell?_setCell_same _ _ _ a1
 have b2 := (World.cell?_setCell_other w1 ⟨B, 1, none⟩ ⟨B, 2, none⟩ y (by simp)).trans a2
 have b3 := (World.cell?_setCell_other w1 ⟨B, 1, none⟩ ⟨B, 3, none⟩ y (by simp)).trans a3
 generalize w1.setCell ⟨B, 1, none⟩ y = w2 at *
 have c0 := (World.cell?_setCell_other w2 ⟨B, 2, none⟩ ⟨B, 0, none⟩ z (by simp)).trans b0
 have c1 := (World.cell?_setCell_other w2 ⟨B, 2, none⟩ ⟨B, 1, none⟩ z (by simp)).trans b1
 have c2 : (w2.setCell ⟨B, 2, none⟩ z).cell? ⟨B, 2, none⟩ = some z := World.cell?_setCell_same _ _ _ b2
 have c3 := (World.cell?_setCell_other w2 ⟨B, 2, none⟩ ⟨B, 3, none⟩ z (by simp)).trans b3
 generalize w2.setCell ⟨B, 2, none⟩ z = w3 at *
 exact ⟨(World.cell?_setCell_other w3 ⟨B, 3, none⟩ ⟨B, 0, none⟩ u (by simp)).trans c0, (World.cell?_setCell_other w3 ⟨B, 3, none⟩ ⟨B, 1, none⟩ u (by simp)).trans c1, (World.cell?_setCell_other w3 ⟨B, 3, none⟩ ⟨B, 2, none⟩ u (by simp)).trans c2, World.cell?_setCell_same _ _ _ c3⟩
structure Dk (w0 w : World) (p r g : Nat) (a : Option Addr) (c : Nat) (B : List UInt8) (k at_ : Nat) (l : List Int) : Prop where
 dec : Fd.dec B k = some (at_, l)
 len : l.length = k
 rdr : Rdr w g a c B at_
 row : RowVar w r l
 res : RowVar w p []
 low : Below w0.heap.size w0 w
 p0 : w0.heap.size ≤ p
 r0 : w0.heap.size ≤ r
 g0 : w0.heap.size ≤ g
 pr : p ≠ r
 pg : p ≠ g
 rg : r ≠ g
 ra : B ≠ [] → ∀ x, a = some x → x.block ≠ r
set_option maxRecDepth 100000 in
set_option maxHeartbeats 4000000 in
theorem rowsDecode (a1 : Option Addr) (c1 : Nat) (B : List UInt8) (hl : B.length ≤ 1000000) (w : World) (h : RdB w a1 c1 B) :
  Calls Tryz.prog 81 #[.slice a1 B.length c1] w fun e w' => e = .returned (.tuple #[lRow (Fd.rowL (Fd.row B)), .int .i64 (rE (Fd.row B))]) ∧ Below w.heap.size w w' := by
 obtain ⟨D, hD⟩ : ∃ D, Fd.row B = D := ⟨_, rfl⟩
 rw [hD]
 have HD := Lib.hid hD
 have HB := Lib.hid (fun W => RdB.later h (w' := W))
 have HP := Lib.hid (RowVar.made w 41)
 have HL := Lib.hid (al1 w (.cells #[.int .i64 0, .int .i64 0, .int .i64 0, .int .i64 0] 41))
 clear h hD
 go_enter Tryz.func81, Tryz.ntmps81
 go_wp2_with (go_at_call 116; refine (read_any a1 c1 B hl _ (HB.out _ HL.out)).mono ?_; rintro e w1 ⟨g, a3, c3, rfl, hr, hb, hg⟩; have H1 := Lib.hid (And.intro hr (And.intro hb hg)); clear hr hb hg)
 have HK : Hid (Dk w (w1.alloc (.cells #[.int .i64 0, .int .i64 0, .int .i64 0, .int .i64 0] 41)) w.heap.size w1.heap.size g a3 c3 B 0 0 []) := Lib.hid (by
  have hs : w.heap.size + 1 ≤ w1.heap.size := by have := H1.out.2.1.size; simpa using this
  have hg : w.heap.size + 1 ≤ g := by have := H1.out.2.2; simpa using this
  have hg2 : g < w1.heap.size := block_of_cell H1.out.1.i
  exact ⟨rfl, rfl, H1.out.1.later (al1 w1 _), RowVar.made w1 _, (HP.out.later H1.out.2.1).later (al1 w1 _), (HL.out.trans (H1.out.2.1.mono (by simp))).trans ((al1 w1 _).mono (by omega)), Nat.le_refl _, by omega, by omega, by omega, by omega, by omega, fun hne x hx e => by
   have := Rd.lt H1.out.1.rd x hx (bytesV_ne hne)
   omega⟩)
 clear HP HL HB
 generalize w1.heap.size = r at *
 generalize w1.alloc (.cells #[.int .i64 0, .int .i64 0, .int .i64 0, .int .i64 0] 41) = W1 at *
 clear H1
 go_loopw [14] (fun i wr => ∃ (k at_ : Nat) (l : List Int), k ≤ 4 ∧ i = .int .i64 k ∧ Hid (Dk w wr w.heap.size r g a3 c3 B k at_ l)) (fun i _ => 4 - (intOf i).toNat)
 case atStart => exact ⟨0, 0, [], by omega, rfl, HK⟩
 case round =>
  clear HK
  obtain ⟨k, at_, l, hk, rfl, HS⟩ := hrel
  obtain ⟨wo, rfl⟩ : ∃ wo : World, wo = wr := ⟨_, rfl⟩
  by_cases hlt : k < 4
  ·obtain ⟨P, hP⟩ : ∃ P, Fd.parse 0 (B.drop at_) = P := ⟨_, rfl⟩
   have HRI := Lib.hid (rInt_any g a3 c3 B at_ hl wo HS.out.rdr P hP)
   have HP := Lib.hid hP
   have k1 : (k : Int) < 4 := by omega
   have k0 : (0 : Int) ≤ (k : Int) := by omega
   clear hP
   cases P with
   | none =>
    have HN : Hid (D = none) := Lib.hid (by rw [← HD.out, Fd.row_none (Fd.dec_stop HS.out.dec HP.out hlt)])
    go_wp2_with (go_at_call 117; refine HRI.out.mono ?_; rintro e w2 ⟨rfl, hr, hf⟩; have HV := Lib.hid (HS.out.res.fr hf (fun o e => HS.out.pg e.1)); have H2 := Lib.hid (HS.out.low.trans (hf.below HS.out.low.size (fun b o e => e.1 ▸ HS.out.g0))); have f00 := (HV.out 0 (by omega)).1; have f01 := (HV.out 0 (by omega)).2; have f10 := (HV.out 1 (by omega)).1; have f11 := (HV.out 1 (by omega)).2; have f20 := (HV.out 2 (by omega)).1; have f21 := (HV.out 2 (by omega)).2; have f30 := (HV.out 3 (by omega)).1; have f31 := (HV.out 3 (by omega)).2; clear hr hf)
    have t4 := four_set w2 w.heap.size [] (.int .i64 0) (.int .i64 0) (.int .i64 0) (.int .i64 0) HV.out
    refine bodyPost_ret (v := .tuple #[lRow [], .int .i64 11]) (by simp [results, Tryz.results81, go_sem, t4.1, t4.2.1, t4.2.2.1, t4.2.2.2, lRow, iE]) rfl ?_
    rw [HN.out]
    exact ⟨rfl, ((((H2.out.setCell (Nat.le_refl _) _).setCell (Nat.le_refl _) _).setCell (Nat.le_refl _) _).setCell (Nat.le_refl _) _)⟩
   | some q =>
    obtain ⟨m, cc⟩ := q
    have HNX := Lib.hid (Fd.dec_next HS.out.dec HP.out)
    have HRI2 : Hid (Calls Tryz.prog 117 #[.pointer (some ⟨g, 0, none⟩)] wo (OuterR wo g a3 c3 B (.int .i64 (Fd.zag m)) 0 (at_ + cc))) := HRI
    have hll := HS.out.len
    clear HRI
    subst hll
    go_wp2_with (go_at_call 117; refine HRI2.out.mono ?_; rintro e w2 ⟨rfl, hr, hf⟩; have HV := Lib.hid (HS.out.row.fr hf (fun o e => HS.out.rg e.1)); have H2 := Lib.hid (And.intro (HS.out.low.trans (hf.below HS.out.low.size (fun b o e => e.1 ▸ HS.out.g0))) (And.intro hr (HS.out.res.fr hf (fun o e => HS.out.pg e.1)))); have f0 := (HV.out l.length hlt).1; have f1 := (HV.out l.length hlt).2; clear hr hf)
    have HPU := Lib.hid (HV.out.put hlt (Fd.zag m))
    have HK2 : Hid (Dk w (w2.setCell ⟨r, l.length, none⟩ (.int .i64 (Fd.zag m))) w.heap.size r g a3 c3 B (l.length + 1) (at_ + cc) (l ++ [Fd.zag m])) := Lib.hid ⟨HNX.out, by rw [List.length_append]; rfl, H2.out.2.1.fr HPU.out.2 (fun _ e => HS.out.rg e.symm) (fun hne x hx _ e => HS.out.ra hne x hx e), HPU.out.1, H2.out.2.2.fr HPU.out.2 (fun _ e => HS.out.pr e), H2.out.1.trans (HPU.out.2.below H2.out.1.size (fun b o e => by subst e; exact HS.out.r0)), HS.out.p0, HS.out.r0, HS.out.g0, HS.out.pr, HS.out.pg, HS.out.rg, HS.out.ra⟩
    go_roundw
    case rel => exact ⟨l.length + 1, at_ + cc, l ++ [Fd.zag m], by omega, by go_num, HK2⟩
    case measure => simp [intOf]; omega
  ·obtain rfl : k = 4 := by omega
   have hle := HS.out.rdr.le
   have HLF := Lib.hid (left_B g a3 c3 B at_ hl wo HS.out.rdr)
   by_cases hat : at_ = B.length
   ·have HN : Hid (D = some l) := Lib.hid (by rw [← HD.out, Fd.row_some HS.out.dec hat])
    obtain ⟨y0, hy0⟩ : ∃ y, l.getD 0 0 = y := ⟨_, rfl⟩
    obtain ⟨y1, hy1⟩ : ∃ y, l.getD 1 0 = y := ⟨_, rfl⟩
    obtain ⟨y2, hy2⟩ : ∃ y, l.getD 2 0 = y := ⟨_, rfl⟩
    obtain ⟨y3, hy3⟩ : ∃ y, l.getD 3 0 = y := ⟨_, rfl⟩
    have HY : Hid (lRow l = .agg #[.int .i64 y0, .int .i64 y1, .int .i64 y2, .int .i64 y3]) := Lib.hid (by unfold lRow; rw [hy0, hy1, hy2, hy3])
    have HRW : Hid (∀ W : World, RowVar W r l → W.cell? ⟨r, 0, none⟩ = some (.int .i64 y0) ∧ W.cell? ⟨r, 1, none⟩ = some (.int .i64 y1) ∧ W.cell? ⟨r, 2, none⟩ = some (.int .i64 y2) ∧ W.cell? ⟨r, 3, none⟩ = some (.int .i64 y3)) := Lib.hid (fun W h => ⟨hy0 ▸ (h 0 (by omega)).1, hy1 ▸ (h 1 (by omega)).1, hy2 ▸ (h 2 (by omega)).1, hy3 ▸ (h 3 (by omega)).1⟩)
    subst hat
    clear hy0 hy1 hy2 hy3 hle
    go_wp2_with (go_at_call 118; refine HLF.out.mono ?_; rintro e w2 ⟨rfl, hb⟩; have HV := Lib.hid (HS.out.res.later hb); have H2 := Lib.hid (HS.out.low.trans (hb.mono HS.out.low.size)); obtain ⟨g0, g1, g2, g3⟩ := HRW.out w2 (HS.out.row.later hb); have f00 := (HV.out 0 (by omega)).1; have f01 := (HV.out 0 (by omega)).2; have f10 := (HV.out 1 (by omega)).1; have f11 := (HV.out 1 (by omega)).2; have f20 := (HV.out 2 (by omega)).1; have f21 := (HV.out 2 (by omega)).2; have f30 := (HV.out 3 (by omega)).1; have f31 := (HV.out 3 (by omega)).2; clear hb)
    have t4 := four_set w2 w.heap.size [] (.int .i64 y0) (.int .i64 y1) (.int .i64 y2) (.int .i64 y3) HV.out
    refine bodyPost_ret (v := .tuple #[.agg #[.int .i64 y0, .int .i64 y1, .int .i64 y2, .int .i64 y3], .int .i64 0]) (by simp [results, Tryz.results81, go_sem, t4.1, t4.2.1, t4.2.2.1, t4.2.2.2]) rfl ?_
    rw [HN.out, ← HY.out]
    exact ⟨rfl, ((((H2.out.setCell (Nat.le_refl _) _).setCell (Nat.le_refl _) _).setCell (Nat.le_refl _) _).setCell (Nat.le_refl _) _)⟩
   ·have HN : Hid (D = none) := Lib.hid (by rw [← HD.out, Fd.row_more HS.out.dec hat])
    have hpos : (0 : Int) < (B.length : Int) - (at_ : Int) := by omega
    have hpos2 : (at_ : Int) < (B.length : Int) := by omega
    clear hat hle
    go_wp2_with (go_at_call 118; refine HLF.out.mono ?_; rintro e w2 ⟨rfl, hb⟩; have HV := Lib.hid (HS.out.res.later hb); have H2 := Lib.hid (HS.out.low.trans (hb.mono HS.out.low.size)); have f00 := (HV.out 0 (by omega)).1; have f01 := (HV.out 0 (by omega)).2; have f10 := (HV.out 1 (by omega)).1; have f11 := (HV.out 1 (by omega)).2; have f20 := (HV.out 2 (by omega)).1; have f21 := (HV.out 2 (by omega)).2; have f30 := (HV.out 3 (by omega)).1; have f31 := (HV.out 3 (by omega)).2; clear hb)
    have t4 := four_set w2 w.heap.size [] (.int .i64 0) (.int .i64 0) (.int .i64 0) (.int .i64 0) HV.out
    refine bodyPost_ret (v := .tuple #[lRow [], .int .i64 11]) (by simp [results, Tryz.results81, go_sem, t4.1, t4.2.1, t4.2.2.1, t4.2.2.2, lRow]) rfl ?_
    rw [HN.out]
    exact ⟨rfl, ((((H2.out.setCell (Nat.le_refl _) _).setCell (Nat.le_refl _) _).setCell (Nat.le_refl _) _).setCell (Nat.le_refl _) _)⟩
end Go.Proofs.YtecnijnmgdfdhaaGreat.Rw

namespace Go.Proofs.YtecnijnmgdfdhaaGreat.Rw
open Go.RowKit
theorem dec_encR {f : Nat → Int} (hf : InR f) : ∀ (k : Nat) (rest : List UInt8), ∃ l : List Int, Fd.dec (encR f k ++ rest) k = some ((encR f k).length, l) ∧ l.length = k ∧ ∀ i, i < k → l.getD i 0 = f i
 | 0, rest => ⟨[], rfl, rfl, fun i hi => by omega⟩
 | k + 1, rest => by
  obtain ⟨l, h1, h2, h3⟩ := dec_encR hf k (Fd.grp (Fd.zig (f k)) ++ rest)
  have hp : Fd.parse 0 ((encR f k ++ (Fd.grp (Fd.zig (f k)) ++ rest)).drop (encR f k).length) = some (Fd.zig (f k), (Fd.grp (Fd.zig (f k))).length) := by
   rw [List.drop_left]
   exact Fd.parse_back (Fd.zig_lt (hf k)) rest
  have h4 := Fd.dec_next h1 hp
  rw [Fd.zag_zig] at h4
  refine ⟨l ++ [f k], by rw [encR, List.append_assoc, h4, List.length_append], by rw [List.length_append, h2]; rfl, fun i hi => ?_⟩
  rw [getD_snoc]
  by_cases e : i = l.length
  ·rw [if_pos e, e, h2]
  ·rw [if_neg e]; exact h3 i (by omega)
theorem row_encR {f : Nat → Int} (hf : InR f) : ∃ l : List Int, Fd.row (encR f 4) = some l ∧ ∀ i, i < 4 → l.getD i 0 = f i := by
 obtain ⟨l, h1, _, h3⟩ := dec_encR hf 4 []
 rw [List.append_nil] at h1
 exact ⟨l, Fd.row_some h1 rfl, h3⟩
end Go.Proofs.YtecnijnmgdfdhaaGreat.Rw
