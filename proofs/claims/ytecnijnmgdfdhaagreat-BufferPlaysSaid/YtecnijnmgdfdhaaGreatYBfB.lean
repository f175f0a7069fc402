/- Joined: Bf4, Bf5. -/
import Derived.Test.YtecnijnmgdfdhaaGreatYBfA
namespace Go.Proofs.YtecnijnmgdfdhaaGreat
namespace Bf
open Go.RowKit Tr Tb
open Ky (less)
open Go.Maps (Keyed IsMap Tidy)
theorem same_str (a b : Str) : (Lit.string a).sameKey (.string b) = (a == b) := by
 by_cases h : a = b
 ·subst h; rw [Go.WideAt.sameKey_self (isKey a)]; simp
 ·rw [Go.Maps.sameKey_ne (lit_ne h)]; simp [h]
theorem below_grown {w V V' : World} (hb : Below w.heap.size w V) (hg : V.grownBy V' (some w.heap.size)) : Below w.heap.size w V' :=
 ⟨hg.os.trans hb.os, hg.tape.trans hb.tape, hg.output.trans hb.output, Nat.le_trans hb.size hg.size, fun k hk => (hg.block k (Nat.lt_of_lt_of_le hk hb.size) (fun e => by have := Option.some.inj e; omega)).trans (hb.block k hk)⟩
theorem invK (key : Value) (kl : Lit) (h : keyOf Tryz.prog 9 key = some kl) : ∃ x : Str, key = .string ⟨x.toArray⟩ := by
 obtain ⟨k, h1, _⟩ := key_inv h
 exact ⟨k, h1⟩
theorem invV (v : Value) (y : DataW Unit × List MemPlace) (h : elP v = some y) : ∃ c, v = ptrO c := by
 obtain ⟨c, h1, _⟩ := elP_inv h
 exact ⟨c, h1⟩
theorem came {D : DataW Unit} {pt : Str → Nat} {W : List Pr} (hM : MapIs D pt W) {x : Str} {c : Option Nat} {kl : Lit} {y : DataW Unit × List MemPlace} (hk : keyOf Tryz.prog 9 (.string ⟨x.toArray⟩) = some kl) (hy : elP (ptrO c) = some y) (hat : ∀ zd, D.atKey kl zd = y.1) :
  kl = .string x ∧ ∃ v, get x W = some v ∧ c = elC pt x v := by
 obtain ⟨k, h1, h2⟩ := key_inv hk
 obtain rfl : k = x := by
  have := congrArg (fun v => match v with | .string s => s.data.toList | _ => []) h1
  simpa using this.symm
 have hh : Go.Maps.has D (.string k) = true := by rw [← h2]; exact Go.Maps.has_true_of_atKey hat
 rw [hM.has] at hh
 obtain ⟨v, hv⟩ := Option.isSome_iff_exists.1 hh
 refine ⟨h2, v, hv, ?_⟩
 have h3 := hM.got k v hv .nil
 rw [← h2, hat, elD_ptr] at h3
 rw [elP_mk] at hy
 cases hy
 exact ptrD_inj h3
theorem strike_str (left : Lit → Bool) (x : Str) : (fun k : Str => (fun z : Lit => left z && !z.sameKey (.string x)) (.string k)) = fun k => (fun k => left (.string k)) k && !(k == x) := by
 funext k
 simp only [same_str]
section
variable {B : Nat} {w0 w V : World} {X Y : List Rs} {bb tb mb rb most o n : Nat} {pt : Str → Nat} {D : DataW Unit} {W L : List Pr}
set_option maxHeartbeats 8000000 in
set_option maxRecDepth 100000 in
theorem own_bufLen (hW : W.length ≤ 100000) (h : Own B w0 (BufR bb tb W :: TabR tb most o L :: X) w) :
  Calls Tryz.prog 17 #[ptrV bb] w fun e V => e = .returned (.int .i64 ((overT W L).length : Nat)) ∧ Below w.heap.size w V := by
 obtain ⟨mb, pt, D, hM, hA⟩ := own_bufOpen h
 have hs : Sorted L := own_tabSorted h.swap
 have ok := own_tabOk h.swap
 have hlen := over_len hM.2.1 hs
 obtain ⟨N, hN⟩ : ∃ N, L.length = N := ⟨_, rfl⟩
 have hNb : N ≤ 1024 := by have := ok.len; have := ok.hi; omega
 obtain ⟨M, hMM⟩ : ∃ M, (overT W L).length = M := ⟨_, rfl⟩
 rw [hN, hMM] at hlen
 rw [hMM]
 obtain ⟨⟨x0, x1⟩, hown, _⟩ := own_bufAt hA
 have HL : Hid (Calls Tryz.prog 26 #[ptrV tb] w fun e V => e = .returned (.int .i64 N) ∧ w = V) := Lib.hid (by rw [← hN]; exact own_tabLen hA.swap)
 have HA := Lib.hid hA
 have HM := Lib.hid hM
 have HB : Hid (∀ (left : Str → Bool), -(W.length : Int) ≤ doneD (delta L) left W ∧ doneD (delta L) left W ≤ W.length) := Lib.hid (fun left => done_bound (delta_bound L) left W)
 have HEnd : Hid ((M : Int) = N + sumD (delta L) W) := Lib.hid hlen
 have hW2 : (W.length : Int) ≤ 100000 := by omega
 have hN2 : (N : Int) ≤ 1024 := by omega
 have hN0 : (0 : Int) ≤ (N : Int) := by omega
 clear h hs ok hlen hMM hM hA
 go_enter Tryz.func17, Tryz.ntmps17
 go_wp2_with (first
  | (go_at_call 26; refine HL.out.mono ?_; rintro e V ⟨rfl, rfl⟩)
  | (at_range; refine wpList_range_own _ rfl _ 86 rfl 9 89 kLaw Tryz.underlying86 _ mb W.length D rfl hown ?_; intro w0 hrg0 hg0 hs0)
  | go_in)
 go_frame
 have HS0 : Hid (Below w.heap.size w w0 ∧ w0.ranges Tryz.prog 9 elP mb w.heap.size W.length D (Go.Maps.has D) (Go.Maps.size D)) := Lib.hid ⟨⟨hg0.os, hg0.tape, hg0.output, hg0.size, fun k hk => hg0.block k hk (by simp)⟩, hrg0⟩
 clear hrg0 hg0 hs0 hown
 go_loopw [3] (fun nv wr => ∃ (left : Lit → Bool) (cnt : Nat) (d : Int), nv = .int .i64 (N + d) ∧ Hid (d = doneD (delta L) (fun k => left (.string k)) W ∧ Below w.heap.size w wr ∧ wr.ranges Tryz.prog 9 elP mb w.heap.size W.length D left cnt)) (fun _ wr => wr.rangeLeft mb w.heap.size)
 case atStart =>
  refine ⟨_, _, 0, by simp, Lib.hid ⟨?_, HS0.out.1, HS0.out.2⟩⟩
  refine (done_all _ (fun p hp => ?_)).symm
  show Go.Maps.has D (.string p.1) = true
  rw [HM.out.1.has, (mem_get HM.out.2.1).2 (show (p.1, p.2) ∈ W from hp)]
  rfl
 case round =>
  obtain ⟨left, cnt, d, rfl, HJ⟩ := hrel
  have hd := HB.out (fun k => left (.string k))
  rw [← HJ.out.1] at hd
  have hd1 : -100000 ≤ d := by omega
  have hd2 : d ≤ 100000 := by omega
  have hrg := HJ.out.2.2
  clear hd
  go_wp2_with (first
   | (at_next; refine wpList_next_ranges _ rfl _ rfl 9 kLaw elP (fun x : Str => .string ⟨x.toArray⟩) ptrO invK invV mb w.heap.size W.length D left cnt rfl hrg ?_ ?_)
   | go_in)
  ·intro _ hl0
   have hE : (N : Int) + d = (M : Int) := by
    rw [HEnd.out, HJ.out.1, done_none _ (fun p _ => hl0 (.string p.1))]
   clear hl0 hrg
   go_wp2
   go_ret
   rw [hE]
   exact ⟨rfl, HJ.out.2.1⟩
  ·intro x c kl yd yp w1 cnt1 hk hlx hy hat hrg1 hlt hg1 hs1 hen
   obtain ⟨rfl, v, hv, rfl⟩ := came (y := (yd, yp)) HM.out.1 hk hy hat
   obtain ⟨r, hrr, hvr⟩ := HM.out.2.2.got HM.out.2.1 hv
   have hkey := (HM.out.2.2 (x, v) ((mem_get HM.out.2.1).1 hv)).1
   have H1 := Lib.hid (below_grown HJ.out.2.1 hg1)
   have HR1 := Lib.hid hrg1
   have HLt := Lib.hid hlt
   have hA1 := HA.out.later H1.out
   obtain ⟨⟨z0, z1⟩, _, _⟩ := own_bufAt hA1
   have HG := own_tabGet x hA1.swap
   have HSt : Hid (doneD (delta L) (fun k => (fun z : Lit => left z && !z.sameKey (.string x)) (.string k)) W = d + delta L (x, v)) := Lib.hid (by
    rw [strike_str, done_strike (delta L) HM.out.2.1 (p := (x, v)) ((mem_get HM.out.2.1).1 hv) hlx, ← HJ.out.1])
   obtain ⟨⟨g0, g1, g2, g3⟩, hgr⟩ : ∃ g, getR x L = g := ⟨_, rfl⟩
   rw [hgr] at HG
   simp only [rowW] at HG
   have HG1 := HG
   clear hk hy hat hrg1 hlt hg1 hs1 hrg hgr hA1 HG hvr
   cases hgl : get x L with
   | none =>
    have hE : getE x L = 14 := (row_none hkey hgl).2
    clear hkey hv hlx
    cases v with
    | nil =>
     have hen2 : (Instr.entry (.pointer (some ⟨w.heap.size, 0, none⟩))).run Tryz.prog w1 = .ok (.tuple #[.string ⟨x.toArray⟩, .pointer none]) w1 := hen
     clear hen
     have HG2 : Hid (Calls Tryz.prog 29 #[ptrV tb, .string ⟨x.toArray⟩] w1 fun e V => e = .returned (.tuple #[.agg #[.int .i64 g0, .int .i64 g1, .int .i64 g2, .int .i64 g3], .int .i64 14]) ∧ Below w1.heap.size w1 V) := Lib.hid (by rw [hE] at HG1; exact HG1)
     have HDl : Hid (delta L (x, []) = 0) := Lib.hid (by unfold delta; rw [hgl])
     clear HG1 hgl hE
     simp only [ptrO, elC, Option.map_none, Option.map_some]
     go_wp2_with (go_at_call 29; refine HG2.out.mono ?_; rintro e V ⟨rfl, hb⟩; have HV := Lib.hid (hb.trans ((al1 V (.cells #[.int .i64 g0, .int .i64 g1, .int .i64 g2, .int .i64 g3] 41)).mono hb.size)); clear hb)
     go_roundw
     case rel => exact ⟨_, cnt1, d + (0), by first | rfl | go_num | (congr 1; omega), Lib.hid ⟨by rw [HSt.out, HDl.out], H1.out.trans (HV.out.mono H1.out.size), HR1.out.kept (grown_of_below HV.out) (by simp) (by simp)⟩⟩
     case measure => rw [(HR1.out.kept (grown_of_below HV.out) (by simp) (by simp)).left_eq, HJ.out.2.2.left_eq]; exact HLt.out
    | cons b s =>
     have hen2 : (Instr.entry (.pointer (some ⟨w.heap.size, 0, none⟩))).run Tryz.prog w1 = .ok (.tuple #[.string ⟨x.toArray⟩, .pointer (some ⟨pt x, 0, none⟩)]) w1 := hen
     clear hen
     have HG2 : Hid (Calls Tryz.prog 29 #[ptrV tb, .string ⟨x.toArray⟩] w1 fun e V => e = .returned (.tuple #[.agg #[.int .i64 g0, .int .i64 g1, .int .i64 g2, .int .i64 g3], .int .i64 14]) ∧ Below w1.heap.size w1 V) := Lib.hid (by rw [hE] at HG1; exact HG1)
     have HDl : Hid (delta L (x, b :: s) = 1) := Lib.hid (by unfold delta; rw [hgl])
     clear HG1 hgl hE
     simp only [ptrO, elC, Option.map_none, Option.map_some]
     go_wp2_with (go_at_call 29; refine HG2.out.mono ?_; rintro e V ⟨rfl, hb⟩; have HV := Lib.hid (hb.trans ((al1 V (.cells #[.int .i64 g0, .int .i64 g1, .int .i64 g2, .int .i64 g3] 41)).mono hb.size)); clear hb)
     go_roundw
     case rel => exact ⟨_, cnt1, d + (1), by first | rfl | go_num | (congr 1; omega), Lib.hid ⟨by rw [HSt.out, HDl.out], H1.out.trans (HV.out.mono H1.out.size), HR1.out.kept (grown_of_below HV.out) (by simp) (by simp)⟩⟩
     case measure => rw [(HR1.out.kept (grown_of_below HV.out) (by simp) (by simp)).left_eq, HJ.out.2.2.left_eq]; exact HLt.out
   | some s0 =>
    have hE : getE x L = 0 := (row_some hkey hgl).2
    clear hkey hv hlx
    cases v with
    | nil =>
     have hen2 : (Instr.entry (.pointer (some ⟨w.heap.size, 0, none⟩))).run Tryz.prog w1 = .ok (.tuple #[.string ⟨x.toArray⟩, .pointer none]) w1 := hen
     clear hen
     have HG2 : Hid (Calls Tryz.prog 29 #[ptrV tb, .string ⟨x.toArray⟩] w1 fun e V => e = .returned (.tuple #[.agg #[.int .i64 g0, .int .i64 g1, .int .i64 g2, .int .i64 g3], .int .i64 0]) ∧ Below w1.heap.size w1 V) := Lib.hid (by rw [hE] at HG1; exact HG1)
     have HDl : Hid (delta L (x, []) = -1) := Lib.hid (by unfold delta; rw [hgl])
     clear HG1 hgl hE
     simp only [ptrO, elC, Option.map_none, Option.map_some]
     go_wp2_with (go_at_call 29; refine HG2.out.mono ?_; rintro e V ⟨rfl, hb⟩; have HV := Lib.hid (hb.trans ((al1 V (.cells #[.int .i64 g0, .int .i64 g1, .int .i64 g2, .int .i64 g3] 41)).mono hb.size)); clear hb)
     go_roundw
     case rel => exact ⟨_, cnt1, d + (-1), by first | rfl | go_num | (congr 1; omega), Lib.hid ⟨by rw [HSt.out, HDl.out], H1.out.trans (HV.out.mono H1.out.size), HR1.out.kept (grown_of_below HV.out) (by simp) (by simp)⟩⟩
     case measure => rw [(HR1.out.kept (grown_of_below HV.out) (by simp) (by simp)).left_eq, HJ.out.2.2.left_eq]; exact HLt.out
    | cons b s =>
     have hen2 : (Instr.entry (.pointer (some ⟨w.heap.size, 0, none⟩))).run Tryz.prog w1 = .ok (.tuple #[.string ⟨x.toArray⟩, .pointer (some ⟨pt x, 0, none⟩)]) w1 := hen
     clear hen
     have HG2 : Hid (Calls Tryz.prog 29 #[ptrV tb, .string ⟨x.toArray⟩] w1 fun e V => e = .returned (.tuple #[.agg #[.int .i64 g0, .int .i64 g1, .int .i64 g2, .int .i64 g3], .int .i64 0]) ∧ Below w1.heap.size w1 V) := Lib.hid (by rw [hE] at HG1; exact HG1)
     have HDl : Hid (delta L (x, b :: s) = 0) := Lib.hid (by unfold delta; rw [hgl])
     clear HG1 hgl hE
     simp only [ptrO, elC, Option.map_none, Option.map_some]
     go_wp2_with (go_at_call 29; refine HG2.out.mono ?_; rintro e V ⟨rfl, hb⟩; have HV := Lib.hid (hb.trans ((al1 V (.cells #[.int .i64 g0, .int .i64 g1, .int .i64 g2, .int .i64 g3] 41)).mono hb.size)); clear hb)
     go_roundw
     case rel => exact ⟨_, cnt1, d + (0), by first | rfl | go_num | (congr 1; omega), Lib.hid ⟨by rw [HSt.out, HDl.out], H1.out.trans (HV.out.mono H1.out.size), HR1.out.kept (grown_of_below HV.out) (by simp) (by simp)⟩⟩
     case measure => rw [(HR1.out.kept (grown_of_below HV.out) (by simp) (by simp)).left_eq, HJ.out.2.2.left_eq]; exact HLt.out
end
end Bf
end Go.Proofs.YtecnijnmgdfdhaaGreat

namespace Go.Proofs.YtecnijnmgdfdhaaGreat
namespace Bf
open Go.RowKit Tr Tb
open Ky (less)
open Go.Maps (Keyed IsMap Tidy)
def putW (k : Str) (r : R4) (most : Nat) (W L : List Pr) : List Pr := if putE k most (overT W L) = 0 then ins (k, wrS (some r)) W else W
def delW (k : Str) (W L : List Pr) : List Pr := if getE k (overT W L) = 0 then ins (k, wrS none) W else W
section
variable {B : Nat} {w0 w V : World} {X Y : List Rs} {bb tb mb rb most o n : Nat} {pt : Str → Nat} {D : DataW Unit} {W L : List Pr}
theorem getE_cases (k : Str) (A : List Pr) : (getE k A = 13 ∧ Ks.okKey k = false) ∨ (getE k A = 14 ∧ Ks.okKey k = true ∧ get k A = none) ∨ (getE k A = 0 ∧ Ks.okKey k = true ∧ ∃ s, get k A = some s) := by
 unfold getE
 cases h : Ks.okKey k with
 | false => exact .inl ⟨rfl, rfl⟩
 | true =>
  cases hg : get k A with
  | none => exact .inr (.inl ⟨rfl, rfl, rfl⟩)
  | some s => exact .inr (.inr ⟨rfl, rfl, s, rfl⟩)
set_option maxHeartbeats 8000000 in
set_option maxRecDepth 100000 in
theorem own_bufPut (k : Str) (r : R4) (hr : In4 r) (hW : W.length ≤ 100000) (h : Own B w0 (BufR bb tb W :: TabR tb most o L :: X) w) :
  Calls Tryz.prog 23 #[ptrV bb, .string ⟨k.toArray⟩, .agg #[.int .i64 r.1, .int .i64 r.2.1, .int .i64 r.2.2.1, .int .i64 r.2.2.2]] w fun e V => e = .returned (.int .i64 (putE k most (overT W L))) ∧ Own B w0 (BufR bb tb (putW k r most W L) :: TabR tb most o L :: X) V := by
 obtain ⟨r0, r1, r2, r3⟩ := r
 obtain ⟨mb, pt, D, hM, hA0⟩ := own_bufOpen h
 have hb1 := al1 w (.cells #[.int .i64 r0, .int .i64 r1, .int .i64 r2, .int .i64 r3] 41)
 have hP := own_newRow hA0 (r0, r1, r2, r3) 41
 have hP2 := own_newRow h (r0, r1, r2, r3) 41
 obtain ⟨W1, hW1⟩ : ∃ W1, w.alloc (.cells #[.int .i64 r0, .int .i64 r1, .int .i64 r2, .int .i64 r3] 41) = W1 := ⟨_, rfl⟩
 have hP : Own B w0 (CellsR w.heap.size (r4V (r0, r1, r2, r3)) :: BufA bb tb mb pt D W :: TabR tb most o L :: X) W1 := by rw [← hW1]; exact hP
 have hP2 : Own B w0 (CellsR w.heap.size (r4V (r0, r1, r2, r3)) :: BufR bb tb W :: TabR tb most o L :: X) W1 := by rw [← hW1]; exact hP2
 have HA : Hid (Own B w0 (BufA bb tb mb pt D W :: CellsR w.heap.size (r4V (r0, r1, r2, r3)) :: TabR tb most o L :: X) W1) := Lib.hid hP.swap
 have HX : Hid (∀ V, Below W1.heap.size W1 V → V.cell? ⟨bb, 0, none⟩ = some (ptrV tb) ∧ V.cell? ⟨bb, 1, none⟩ = some (.map (some mb)) ∧ V.ownsMap Tryz.prog 9 elP mb W.length D) := Lib.hid (fun V hb => by
  obtain ⟨⟨h1, h2⟩, h3, _⟩ := own_bufAt (hP.swap.later hb)
  exact ⟨h1, h2, h3⟩)
 have HB := Lib.hid (fun V (hb : Below W1.heap.size W1 V) => hP2.drop.later hb)
 have HG := Lib.hid (own_bufGet k hP2.drop)
 have HLb : Hid (∀ V, Below W1.heap.size W1 V → Calls Tryz.prog 17 #[ptrV bb] V fun e V2 => e = .returned (.int .i64 ((overT W L).length : Nat)) ∧ Below V.heap.size V V2) := Lib.hid (fun V hb => own_bufLen hW (hP2.drop.later hb))
 have HMo : Hid (∀ V, Below W1.heap.size W1 V → Calls Tryz.prog 35 #[ptrV tb] V fun e V2 => e = .returned (.int .i64 most) ∧ V = V2) := Lib.hid (fun V hb => own_tabMost (hP2.drop.drop.later hb))
 have HM := Lib.hid hM
 have HIn := Lib.hid hr
 have HO : Hid (Own B w0 (BufR bb tb W :: TabR tb most o L :: X) W1) := Lib.hid hP2.drop
 obtain ⟨⟨g0, g1, g2, g3⟩, hgr⟩ : ∃ g, getR k (overT W L) = g := ⟨_, rfl⟩
 rw [hgr] at HG
 simp only [rowW] at HG
 obtain ⟨M, hMM⟩ : ∃ M, (overT W L).length = M := ⟨_, rfl⟩
 have hPE : putE k most (overT W L) = if Ks.okKey k then (if (get k (overT W L)).isNone && decide (most ≤ M) then 16 else 0) else 13 := by rw [← hMM]; rfl
 rw [hMM] at HLb
 have HF0 := Lib.hid hPE
 clear h hA0 hP hP2 hb1 hM hr hgr hMM
 rcases getE_cases k (overT W L) with ⟨hE, hkey⟩ | ⟨hE, hkey, hg⟩ | ⟨hE, hkey, s, hg⟩
 ·have hp : putE k most (overT W L) = 13 := by rw [hPE, hkey]; rfl
  have HW' : Hid (putW k (r0, r1, r2, r3) most W L = W) := Lib.hid (by unfold putW; rw [hp]; rfl)
  rw [hE] at HG
  rw [hp, HW'.out]
  clear hPE hE hkey hp
  go_enter Tryz.func23, Tryz.ntmps23
  go_wp2_with (go_at_call 28; refine HG.out.mono ?_; rintro e V ⟨rfl, hb⟩; have HV1 := Lib.hid (hb.trans ((al1 V (.cells #[.int .i64 g0, .int .i64 g1, .int .i64 g2, .int .i64 g3] 41)).mono hb.size)); have z0 := (HX.out _ HV1.out).1; clear hb)
  go_quiet (fail)
  go_wp2
  go_ret
  exact ⟨rfl, HO.out.later (HV1.out.trans ((below_drewN _ nq).mono HV1.out.size))⟩
 ·have HKey := Lib.hid hkey
  have hkl : k.length ≤ 1000000 := by unfold Ks.okKey at hkey; simp at hkey; omega
  rw [hE] at HG
  by_cases hfull : most ≤ M
  ·have hp : putE k most (overT W L) = 16 := by rw [hPE, hkey, hg, decide_eq_true hfull]; rfl
   have HW' : Hid (putW k (r0, r1, r2, r3) most W L = W) := Lib.hid (by unfold putW; rw [hp]; rfl)
   have k1 : (most : Int) ≤ (M : Int) := by omega
   rw [hp, HW'.out]
   clear hPE hE hkey hp hg
   go_enter Tryz.func23, Tryz.ntmps23
   go_wp2_with (go_at_call 28; refine HG.out.mono ?_; rintro e V ⟨rfl, hb⟩; have HV1 := Lib.hid (hb.trans ((al1 V (.cells #[.int .i64 g0, .int .i64 g1, .int .i64 g2, .int .i64 g3] 41)).mono hb.size)); have z0 := (HX.out _ HV1.out).1; clear hb)
   refine wp_region_held_drew (S := (fun V => V.cell? ⟨bb, 0, none⟩ = some (ptrV tb))) (by kernel_rfl) z0 (fun hH0f => ?_)
   refine zzT (i := 0) (v := ?vf0) rfl (by kernel_rfl) (fun _ _ _ h => h) ?hf0 hH0f ?rf0
   case hf0 => (intro W h; (try dsimp only at h); go_simp; all_goals (with_reducible rfl))
   try simp only [zzA, zzB, zzC, Act.put, zzD, zzE, zzF]
   refine zzT (i := 1) (v := ?vf1) rfl (by kernel_rfl) (fun _ _ _ h => h) ?hf1 hH0f ?rf1
   case hf1 => (intro W h; (try dsimp only at h); go_simp; all_goals (with_reducible rfl))
   try simp only [zzA, zzB, zzC, Act.put, zzD, zzE, zzF]
   refine zzT (i := 2) (v := ?vf2) rfl (by kernel_rfl) (fun _ _ _ h => h) ?hf2 hH0f ?rf2
   case hf2 => (intro W h; (try dsimp only at h); go_simp; all_goals (with_reducible rfl))
   try simp only [zzA, zzB, zzC, Act.put, zzD, zzE, zzF]
   refine zzT (i := 3) (v := ?vf3) rfl (by kernel_rfl) (fun _ _ _ h => h) ?hf3 hH0f ?rf3
   case hf3 => (intro W h; (try dsimp only at h); go_simp; all_goals (with_reducible rfl))
   try simp only [zzA, zzB, zzC, Act.put, zzD, zzE, zzF]
   refine zzT (i := 5) (v := ?vf5) rfl (by kernel_rfl) (fun _ _ _ h => h) ?hf5 hH0f ?rf5
   case hf5 => (intro W h; (try dsimp only at h); go_simp; all_goals (with_reducible rfl))
   try simp only [zzA, zzB, zzC, Act.put, zzD, zzE, zzF]
   refine zzT (i := 6) (v := ?vf6) rfl (by kernel_rfl) (fun _ _ _ h => h) ?hf6 hH0f ?rf6
   case hf6 => (intro W h; (try dsimp only at h); go_simp; all_goals (with_reducible rfl))
   try simp only [zzA, zzB, zzC, Act.put, zzD, zzE, zzF]
   refine zzT (i := 7) (v := ?vf7) rfl (by kernel_rfl) (fun _ _ _ h => h) ?hf7 hH0f ?rf7
   case hf7 => (intro W h; (try dsimp only at h); go_simp; all_goals (with_reducible rfl))
   try simp only [zzA, zzB, zzC, Act.put, zzD, zzE, zzF]
   refine zzT (i := 8) (v := ?vf8) rfl (by kernel_rfl) (fun _ _ _ h => h) ?hf8 hH0f ?rf8
   case hf8 => (intro W h; (try dsimp only at h); go_simp; all_goals (with_reducible rfl))
   try simp only [zzA, zzB, zzC, Act.put, zzD, zzE, zzF]
   refine wpAnyH_ready (rs := [4]) (by kernel_rfl) (by simp) ?_
   refine AllReadyH.cons rfl (fun K hK => ?_) AllReadyH.nil
   simp only [zzA, zzB, zzC]
   go_simp
   (go_at_call 17; refine (HLb.out _ (HV1.out.drew)).mono ?_; rintro e V5 ⟨rfl, hb⟩)
   have H5 := Lib.hid ((HV1.out.drew).trans (hb.mono (HV1.out.drew).size))
   clear hb
   refine hK.out _ _ ((HX.out _ H5.out).1) (fun hH1f => ?_)
   clear hK K hH0f
   try simp only [zzA, zzB, zzC, Act.put, zzD, zzE, zzF]
   refine wpAnyH_ready (rs := [9]) (by kernel_rfl) (by simp) ?_
   refine AllReadyH.cons rfl (fun K hK => ?_) AllReadyH.nil
   simp only [zzA, zzB, zzC]
   go_simp
   (go_at_call 35; refine (HMo.out _ (H5.out)).mono ?_; rintro e V6 ⟨rfl, rfl⟩)
   refine hK.out _ _ ((HX.out _ H5.out).1) (fun hH2f => ?_)
   clear hK K hH1f
   try simp only [zzA, zzB, zzC, Act.put, zzD, zzE, zzF]
   refine zzT (i := 10) (v := ?vfz10) rfl (by kernel_rfl) (fun _ _ _ h => h) ?hfz10 hH2f ?rfz10
   case hfz10 => (intro W h; (try dsimp only at h); go_simp; all_goals (with_reducible rfl))
   try simp only [zzA, zzB, zzC, Act.put, zzD, zzE, zzF]
   refine zzT (i := 11) (v := ?vfz11) rfl (by kernel_rfl) (fun _ _ _ h => h) ?hfz11 hH2f ?rfz11
   case hfz11 => (intro W h; (try dsimp only at h); go_simp; all_goals (with_reducible rfl))
   try simp only [zzA, zzB, zzC, Act.put, zzD, zzE, zzF]
   refine zzT (i := 12) (v := ?vfz12) rfl (by kernel_rfl) (fun _ _ _ h => h) ?hfz12 hH2f ?rfz12
   case hfz12 => (intro W h; (try dsimp only at h); go_simp; all_goals (with_reducible rfl))
   try simp only [zzA, zzB, zzC, Act.put, zzD, zzE, zzF]
   refine wpAnyH_done (by kernel_rfl) ?_ _
   go_wp2
   go_ret
   exact ⟨rfl, HO.out.later H5.out⟩
  ·have hp : putE k most (overT W L) = 0 := by rw [hPE, hkey, hg, decide_eq_false hfull]; rfl
   have HW' : Hid (putW k (r0, r1, r2, r3) most W L = ins (k, wrS (some (r0, r1, r2, r3))) W) := Lib.hid (by unfold putW; rw [if_pos hp])
   have k1 : ¬ (most : Int) ≤ (M : Int) := by omega
   rw [hp, HW'.out]
   clear hPE hE hkey hp hg
   go_enter Tryz.func23, Tryz.ntmps23
   go_wp2_with (go_at_call 28; refine HG.out.mono ?_; rintro e V ⟨rfl, hb⟩; have HV1 := Lib.hid (hb.trans ((al1 V (.cells #[.int .i64 g0, .int .i64 g1, .int .i64 g2, .int .i64 g3] 41)).mono hb.size)); have z0 := (HX.out _ HV1.out).1; clear hb)
   refine wp_region_held_drew (S := (fun V => V.cell? ⟨bb, 0, none⟩ = some (ptrV tb))) (by kernel_rfl) z0 (fun hH0s => ?_)
   refine zzT (i := 0) (v := ?vs0) rfl (by kernel_rfl) (fun _ _ _ h => h) ?hs0 hH0s ?rs0
   case hs0 => (intro W h; (try dsimp only at h); go_simp; all_goals (with_reducible rfl))
   try simp only [zzA, zzB, zzC, Act.put, zzD, zzE, zzF]
   refine zzT (i := 1) (v := ?vs1) rfl (by kernel_rfl) (fun _ _ _ h => h) ?hs1 hH0s ?rs1
   case hs1 => (intro W h; (try dsimp only at h); go_simp; all_goals (with_reducible rfl))
   try simp only [zzA, zzB, zzC, Act.put, zzD, zzE, zzF]
   refine zzT (i := 2) (v := ?vs2) rfl (by kernel_rfl) (fun _ _ _ h => h) ?hs2 hH0s ?rs2
   case hs2 => (intro W h; (try dsimp only at h); go_simp; all_goals (with_reducible rfl))
   try simp only [zzA, zzB, zzC, Act.put, zzD, zzE, zzF]
   refine zzT (i := 3) (v := ?vs3) rfl (by kernel_rfl) (fun _ _ _ h => h) ?hs3 hH0s ?rs3
   case hs3 => (intro W h; (try dsimp only at h); go_simp; all_goals (with_reducible rfl))
   try simp only [zzA, zzB, zzC, Act.put, zzD, zzE, zzF]
   refine zzT (i := 5) (v := ?vs5) rfl (by kernel_rfl) (fun _ _ _ h => h) ?hs5 hH0s ?rs5
   case hs5 => (intro W h; (try dsimp only at h); go_simp; all_goals (with_reducible rfl))
   try simp only [zzA, zzB, zzC, Act.put, zzD, zzE, zzF]
   refine zzT (i := 6) (v := ?vs6) rfl (by kernel_rfl) (fun _ _ _ h => h) ?hs6 hH0s ?rs6
   case hs6 => (intro W h; (try dsimp only at h); go_simp; all_goals (with_reducible rfl))
   try simp only [zzA, zzB, zzC, Act.put, zzD, zzE, zzF]
   refine zzT (i := 7) (v := ?vs7) rfl (by kernel_rfl) (fun _ _ _ h => h) ?hs7 hH0s ?rs7
   case hs7 => (intro W h; (try dsimp only at h); go_simp; all_goals (with_reducible rfl))
   try simp only [zzA, zzB, zzC, Act.put, zzD, zzE, zzF]
   refine zzT (i := 8) (v := ?vs8) rfl (by kernel_rfl) (fun _ _ _ h => h) ?hs8 hH0s ?rs8
   case hs8 => (intro W h; (try dsimp only at h); go_simp; all_goals (with_reducible rfl))
   try simp only [zzA, zzB, zzC, Act.put, zzD, zzE, zzF]
   refine wpAnyH_ready (rs := [4]) (by kernel_rfl) (by simp) ?_
   refine AllReadyH.cons rfl (fun K hK => ?_) AllReadyH.nil
   simp only [zzA, zzB, zzC]
   go_simp
   (go_at_call 17; refine (HLb.out _ (HV1.out.drew)).mono ?_; rintro e V5 ⟨rfl, hb⟩)
   have H5 := Lib.hid ((HV1.out.drew).trans (hb.mono (HV1.out.drew).size))
   clear hb
   refine hK.out _ _ ((HX.out _ H5.out).1) (fun hH1s => ?_)
   clear hK K hH0s
   try simp only [zzA, zzB, zzC, Act.put, zzD, zzE, zzF]
   refine wpAnyH_ready (rs := [9]) (by kernel_rfl) (by simp) ?_
   refine AllReadyH.cons rfl (fun K hK => ?_) AllReadyH.nil
   simp only [zzA, zzB, zzC]
   go_simp
   (go_at_call 35; refine (HMo.out _ (H5.out)).mono ?_; rintro e V6 ⟨rfl, rfl⟩)
   refine hK.out _ _ ((HX.out _ H5.out).1) (fun hH2s => ?_)
   clear hK K hH1s
   try simp only [zzA, zzB, zzC, Act.put, zzD, zzE, zzF]
   refine zzT (i := 10) (v := ?vsz10) rfl (by kernel_rfl) (fun _ _ _ h => h) ?hsz10 hH2s ?rsz10
   case hsz10 => (intro W h; (try dsimp only at h); go_simp; all_goals (with_reducible rfl))
   try simp only [zzA, zzB, zzC, Act.put, zzD, zzE, zzF]
   refine zzT (i := 11) (v := ?vsz11) rfl (by kernel_rfl) (fun _ _ _ h => h) ?hsz11 hH2s ?rsz11
   case hsz11 => (intro W h; (try dsimp only at h); go_simp; all_goals (with_reducible rfl))
   try simp only [zzA, zzB, zzC, Act.put, zzD, zzE, zzF]
   refine zzT (i := 12) (v := ?vsz12) rfl (by kernel_rfl) (fun _ _ _ h => h) ?hsz12 hH2s ?rsz12
   case hsz12 => (intro W h; (try dsimp only at h); go_simp; all_goals (with_reducible rfl))
   try simp only [zzA, zzB, zzC, Act.put, zzD, zzE, zzF]
   refine wpAnyH_done (by kernel_rfl) ?_ _
   have HVV := H5
   obtain ⟨y0, y1, _⟩ := HX.out _ HVV.out
   go_wp2_with (first
    | (at_mapUpdate; refine wpList_mapUpdate_own _ rfl _ _ _ 86 rfl 9 89 kLaw Tryz.underlying86 elP mb W.length D rfl (HX.out _ HVV.out).2.2 (by unfold maxLen; omega) _ _ (.string k) rfl rfl (key_of hkl) (.lit (.int .i64 w.heap.size)) [] rfl ?_; intro w1 hown1 hgrow1; have HF := Lib.hid (own_bufSet HIn.out HKey.out HM.out (HA.out.later HVV.out) hown1 hgrow1); clear hown1 hgrow1)
    | go_in)
   go_ret
   exact ⟨rfl, HF.out⟩
 ·have HKey := Lib.hid hkey
  have hkl : k.length ≤ 1000000 := by unfold Ks.okKey at hkey; simp at hkey; omega
  rw [hE] at HG
  have hp : putE k most (overT W L) = 0 := by rw [hPE, hkey, hg]; rfl
  have HW' : Hid (putW k (r0, r1, r2, r3) most W L = ins (k, wrS (some (r0, r1, r2, r3))) W) := Lib.hid (by unfold putW; rw [if_pos hp])
  rw [hp, HW'.out]
  clear hPE hE hkey hp hg
  go_enter Tryz.func23, Tryz.ntmps23
  go_wp2_with (go_at_call 28; refine HG.out.mono ?_; rintro e V ⟨rfl, hb⟩; have HV1 := Lib.hid (hb.trans ((al1 V (.cells #[.int .i64 g0, .int .i64 g1, .int .i64 g2, .int .i64 g3] 41)).mono hb.size)); have z0 := (HX.out _ HV1.out).1; clear hb)
  go_quiet (fail)
  have HVV := Lib.hid (HV1.out.trans ((below_drewN _ nq).mono HV1.out.size))
  obtain ⟨y0, y1, _⟩ := HX.out _ HVV.out
  clear z0
  go_wp2_with (first
   | (at_mapUpdate; refine wpList_mapUpdate_own _ rfl _ _ _ 86 rfl 9 89 kLaw Tryz.underlying86 elP mb W.length D rfl (HX.out _ HVV.out).2.2 (by unfold maxLen; omega) _ _ (.string k) rfl rfl (key_of hkl) (.lit (.int .i64 w.heap.size)) [] rfl ?_; intro w1 hown1 hgrow1; have HF := Lib.hid (own_bufSet HIn.out HKey.out HM.out (HA.out.later HVV.out) hown1 hgrow1); clear hown1 hgrow1)
   | go_in)
  go_ret
  exact ⟨rfl, HF.out⟩
set_option maxHeartbeats 4000000 in
set_option maxRecDepth 100000 in
theorem own_bufDel (k : Str) (hW : W.length ≤ 100000) (h : Own B w0 (BufR bb tb W :: TabR tb most o L :: X) w) :
  Calls Tryz.prog 24 #[ptrV bb, .string ⟨k.toArray⟩] w fun e V => e = .returned (.int .i64 (getE k (overT W L))) ∧ Own B w0 (BufR bb tb (delW k W L) :: TabR tb most o L :: X) V := by
 obtain ⟨mb, pt, D, hM, hA⟩ := own_bufOpen h
 have HA := Lib.hid hA
 have HO := Lib.hid h
 have HX : Hid (∀ V, Below w.heap.size w V → V.cell? ⟨bb, 0, none⟩ = some (ptrV tb) ∧ V.cell? ⟨bb, 1, none⟩ = some (.map (some mb)) ∧ V.ownsMap Tryz.prog 9 elP mb W.length D) := Lib.hid (fun V hb => by
  obtain ⟨⟨h1, h2⟩, h3, _⟩ := own_bufAt (hA.later hb)
  exact ⟨h1, h2, h3⟩)
 have HG := Lib.hid (own_bufGet k h)
 have HM := Lib.hid hM
 obtain ⟨⟨g0, g1, g2, g3⟩, hgr⟩ : ∃ g, getR k (overT W L) = g := ⟨_, rfl⟩
 rw [hgr] at HG
 simp only [rowW] at HG
 clear h hA hM hgr
 rcases getE_cases k (overT W L) with ⟨hE, hkey⟩ | ⟨hE, hkey, hg⟩ | ⟨hE, hkey, s, hg⟩
 ·have HW' : Hid (delW k W L = W) := Lib.hid (by unfold delW; rw [hE]; rfl)
  rw [HW'.out]
  rw [hE] at HG ⊢
  clear hE hkey
  go_enter Tryz.func24, Tryz.ntmps24
  go_wp2_with (go_at_call 28; refine HG.out.mono ?_; rintro e V ⟨rfl, hb⟩; have HV1 := Lib.hid (hb.trans ((al1 V (.cells #[.int .i64 g0, .int .i64 g1, .int .i64 g2, .int .i64 g3] 41)).mono hb.size)); clear hb)
  go_ret
  exact ⟨rfl, HO.out.later HV1.out⟩
 ·have HW' : Hid (delW k W L = W) := Lib.hid (by unfold delW; rw [hE]; rfl)
  rw [HW'.out]
  rw [hE] at HG ⊢
  clear hE hkey hg
  go_enter Tryz.func24, Tryz.ntmps24
  go_wp2_with (go_at_call 28; refine HG.out.mono ?_; rintro e V ⟨rfl, hb⟩; have HV1 := Lib.hid (hb.trans ((al1 V (.cells #[.int .i64 g0, .int .i64 g1, .int .i64 g2, .int .i64 g3] 41)).mono hb.size)); clear hb)
  go_ret
  exact ⟨rfl, HO.out.later HV1.out⟩
 ·have HKey := Lib.hid hkey
  have hkl : k.length ≤ 1000000 := by unfold Ks.okKey at hkey; simp at hkey; omega
  have HW' : Hid (delW k W L = ins (k, wrS none) W) := Lib.hid (by unfold delW; rw [if_pos hE])
  rw [HW'.out]
  rw [hE] at HG ⊢
  clear hE hkey hg
  go_enter Tryz.func24, Tryz.ntmps24
  go_wp2_with (first
   | (go_at_call 28; refine HG.out.mono ?_; rintro e V ⟨rfl, hb⟩; have HVV := Lib.hid (hb.trans ((al1 V (.cells #[.int .i64 g0, .int .i64 g1, .int .i64 g2, .int .i64 g3] 41)).mono hb.size)); clear hb; obtain ⟨y0, y1, _⟩ := HX.out _ HVV.out)
   | (at_mapUpdate; refine wpList_mapUpdate_own _ rfl _ _ _ 86 rfl 9 89 kLaw Tryz.underlying86 elP mb W.length D rfl (HX.out _ HVV.out).2.2 (by unfold maxLen; omega) _ _ (.string k) rfl rfl (key_of hkl) .nil [] rfl ?_; intro w1 hown1 hgrow1; have HF := Lib.hid (own_bufCut HKey.out HM.out (HA.out.later HVV.out) hown1 hgrow1); clear hown1 hgrow1)
   | go_in)
  go_ret
  exact ⟨rfl, HF.out⟩
theorem clear_run {w : World} {mb n : Nat} {D : DataW Unit} (h : w.ownsMap Tryz.prog 9 elP mb n D) (ty : TypeId) : ∃ w', (Builtin.clear_ #[86] ty #[.map (some mb)]).run Tryz.prog w = .ok (.tuple #[]) w' ∧ w'.ownsMap Tryz.prog 9 elP mb 0 (.map []) ∧ w.grownBy w' (some mb) := by
 obtain ⟨es, clock, hb, F, _, _⟩ := h
 refine ⟨_, by simp [Builtin.clear_, run_underlying Tryz.underlying86, Go.MapKept.run_getObj_map hb, Go.MapKept.run_setObj_map _ hb, Result.andThen]; rfl, ⟨#[], clock, Go.ChangeMaps.heap_setBlock_same hb _, ⟨by simp, Go.MapKept.stamped_empty clock, by simp⟩, Nat.le_refl _, rfl⟩, ⟨rfl, rfl, rfl, by simp [Go.ChangeMaps.setBlock], fun i _ hi => Go.ChangeMaps.heap_setBlock_other hb _ (fun e => hi (by rw [e]))⟩⟩
end
end Bf
end Go.Proofs.YtecnijnmgdfdhaaGreat
