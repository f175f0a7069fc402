/- Joined: BfCmp, Bf6, Bf7, Bf8. -/
import Derived.Test.YtecnijnmgdfdhaaGreatYBfB
import Derived.Test.YtecnijnmgdfdhaaGreatYBfShelf
import Derived.Test.YtecnijnmgdfdhaaGreatYIter5
import Derived.Sort.MapsRangeIn
namespace Go.Proofs.YtecnijnmgdfdhaaGreat
namespace Bf
open Go.RowKit Tr Tb
theorem nanInt (x : Int) (w : World) : Calls Tryz.prog 140 #[.int .i64 x] w fun e w' => e = .returned (.bool false) ∧ w = w' := by
 go_enter Tryz.func140, Tryz.ntmps140
 go_wp2
 go_ret
 exact ⟨rfl, rfl⟩
theorem nanStr (x : List UInt8) (w : World) : Calls Tryz.prog 141 #[.string ⟨x.toArray⟩] w fun e w' => e = .returned (.bool false) ∧ w = w' := by
 go_enter Tryz.func141, Tryz.ntmps141
 go_wp2
 go_ret
 exact ⟨rfl, rfl⟩
def cmpI (x y : Int) : Int := if x < y then -1 else if y < x then 1 else 0
theorem cmpInt (x y : Int) (w : World) : Calls Tryz.prog 112 #[.int .i64 x, .int .i64 y] w fun e w' => e = .returned (.int .i64 (cmpI x y)) ∧ w = w' := by
 rcases Int.lt_trichotomy x y with h | h | h
 ·have hc : cmpI x y = -1 := by unfold cmpI; rw [if_pos h]
  rw [hc]
  clear hc
  go_enter Tryz.func112, Tryz.ntmps112
  go_wp2_with (go_at_call 140; refine (nanInt _ _).mono ?_; rintro e w' ⟨rfl, rfl⟩)
  go_ret
  exact ⟨rfl, rfl⟩
 ·subst h
  have hc : cmpI x x = 0 := by unfold cmpI; simp
  rw [hc]
  clear hc
  go_enter Tryz.func112, Tryz.ntmps112
  go_wp2_with (go_at_call 140; refine (nanInt _ _).mono ?_; rintro e w' ⟨rfl, rfl⟩)
  go_ret
  exact ⟨rfl, rfl⟩
 ·have hc : cmpI x y = 1 := by unfold cmpI; rw [if_neg (by omega), if_pos h]
  have hn : ¬ x < y := by omega
  rw [hc]
  clear hc
  go_enter Tryz.func112, Tryz.ntmps112
  go_wp2_with (go_at_call 140; refine (nanInt _ _).mono ?_; rintro e w' ⟨rfl, rfl⟩)
  go_ret
  exact ⟨rfl, rfl⟩

theorem cmpStr (x y : List UInt8) (w : World) : Calls Tryz.prog 113 #[.string ⟨x.toArray⟩, .string ⟨y.toArray⟩] w fun e w' => e = .returned (.int .i64 (Ky.cmpS x y)) ∧ w = w' := by
 have hg := str_gtr 9 x y
 have hl := str_lss 9 x y
 rcases Ky.less_trich x y with h | h | h
 ·subst h
  rw [Ky.cmpS_self]
  have h := Ky.less_self x
  go_enter Tryz.func113, Tryz.ntmps113
  go_wp2_with (go_at_call 141; refine (nanStr _ _).mono ?_; rintro e w' ⟨rfl, rfl⟩)
  go_ret
  exact ⟨rfl, rfl⟩
 ·have hc : Ky.cmpS x y = -1 := by unfold Ky.cmpS; rw [if_pos h]
  rw [hc]
  clear hc
  go_enter Tryz.func113, Tryz.ntmps113
  go_wp2_with (go_at_call 141; refine (nanStr _ _).mono ?_; rintro e w' ⟨rfl, rfl⟩)
  go_ret
  exact ⟨rfl, rfl⟩
 ·have h2 := Ky.less_asymm h
  have hc : Ky.cmpS x y = 1 := by unfold Ky.cmpS; rw [if_neg (by rw [h2]; decide), if_pos h]
  rw [hc]
  clear hc
  go_enter Tryz.func113, Tryz.ntmps113
  go_wp2_with (go_at_call 141; refine (nanStr _ _).mono ?_; rintro e w' ⟨rfl, rfl⟩)
  go_ret
  exact ⟨rfl, rfl⟩

end Bf
end Go.Proofs.YtecnijnmgdfdhaaGreat

namespace Go.Proofs.YtecnijnmgdfdhaaGreat
namespace Bf
open Go.RowKit Tr Tb
open Ky (less)
open Go.Maps (Keyed IsMap Tidy)
theorem order_run (k1 k2 : Str) (c1 c2 : Option Nat) (w : World) : Calls Tryz.prog 85 #[.agg #[.string ⟨k1.toArray⟩, ptrO c1], .agg #[.string ⟨k2.toArray⟩, ptrO c2]] w fun e V =>
  e = .returned (.int .i64 (Ky.cmpS k1 k2)) ∧ (w.alloc (.cells #[.string ⟨k1.toArray⟩, ptrO c1] 106)).alloc (.cells #[.string ⟨k2.toArray⟩, ptrO c2] 106) = V := by
 obtain ⟨u1, hu1⟩ : ∃ u, ptrO c1 = u := ⟨_, rfl⟩
 obtain ⟨u2, hu2⟩ : ∃ u, ptrO c2 = u := ⟨_, rfl⟩
 have e1 : u1.cells = #[u1] := by rw [← hu1]; rfl
 have e2 : u2.cells = #[u2] := by rw [← hu2]; rfl
 rw [hu1, hu2]
 clear hu1 hu2
 go_enter Tryz.func85, Tryz.ntmps85
 go_wp2_with (go_at_call 113; refine (cmpStr _ _ _).mono ?_; rintro e V ⟨rfl, rfl⟩)
 go_ret
 exact ⟨rfl, rfl⟩
theorem own_nil (w : World) : Calls Tryz.prog 83 #[.pointer none] w fun e V => e = .returned (.pointer none) ∧ w = V := by
 go_enter Tryz.func83, Tryz.ntmps83
 go_wp2
 go_ret
 exact ⟨rfl, rfl⟩
theorem own_some {w : World} {b : Nat} (r : R4) (h : ∀ i, i < 4 → w.cell? ⟨b, i, none⟩ = some (.int .i64 (col r i))) : Calls Tryz.prog 83 #[ptrV b] w fun e V =>
  e = .returned (ptrV w.heap.size) ∧ Below w.heap.size w V ∧ w.heap.size < V.heap.size ∧ ∀ i, i < 4 → V.cell? ⟨w.heap.size, i, none⟩ = some (.int .i64 (col r i)) := by
 obtain ⟨r0, r1, r2, r3⟩ := r
 have h0 := h 0 (by omega)
 have h1 := h 1 (by omega)
 have h2 := h 2 (by omega)
 have h3 := h 3 (by omega)
 simp only [col] at h0 h1 h2 h3
 clear h
 go_enter Tryz.func83, Tryz.ntmps83
 go_wp2
 go_ret
 refine ⟨rfl, al1 w _, by simp, fun i hi => ?_⟩
 have : i = 0 ∨ i = 1 ∨ i = 2 ∨ i = 3 := by omega
 rcases this with rfl | rfl | rfl | rfl <;> simp [col]
theorem mapsAll_run (mb : Nat) (w : World) : Calls Tryz.prog 82 #[.map (some mb)] w fun e V =>
  e = .returned (.func (.func 119) #[] #[.pointer (some ⟨w.heap.size, 0, none⟩)]) ∧ w.alloc (.cells #[.map (some mb)] 86) = V := by
 go_enter Tryz.func82, Tryz.ntmps82
 go_wp2
 go_ret
 exact ⟨rfl, rfl⟩
def encW (pt : Str → Nat) (p : Pr) : Array Value := #[.string ⟨p.1.toArray⟩, ptrO (elC pt p.1 p.2)]
def AdmW (W pre : List Pr) : Prop := (pre.map Prod.fst).Nodup ∧ ∀ p ∈ pre, p ∈ W
def FinW (W xs : List Pr) : Prop := AdmW W xs ∧ ∀ p ∈ W, p ∈ xs
theorem AdmW.nil (W : List Pr) : AdmW W [] := ⟨by simp, by simp⟩
theorem AdmW.snoc {W pre : List Pr} (h : AdmW W pre) {p : Pr} (hp : p ∈ W) (hn : p.1 ∉ pre.map Prod.fst) : AdmW W (pre ++ [p]) := by
 refine ⟨?_, fun q hq => ?_⟩
 ·rw [List.map_append, List.nodup_append]
  refine ⟨h.1, by simp, fun a ha b hb e => ?_⟩
  simp at hb
  subst hb
  exact hn (e ▸ ha)
 ·rcases List.mem_append.1 hq with h1 | h1
  ·exact h.2 q h1
  ·simp at h1; subst h1; exact hp
theorem AdmW.nodup {W pre : List Pr} (h : AdmW W pre) : pre.Nodup := by
 have := h.1
 rw [List.nodup_iff_pairwise_ne] at this ⊢
 exact (List.pairwise_map.1 this).imp (fun h e => h (by rw [e]))
theorem FinW.perm {W xs : List Pr} (hs : Sorted W) (h : FinW W xs) : xs.Perm W := by
 refine (List.perm_ext_iff_of_nodup h.1.nodup ?_).2 (fun p => ⟨h.1.2 p, h.2 p⟩)
 rw [List.nodup_iff_pairwise_ne]
 exact hs.imp (fun h e => by rw [e, Ky.less_self] at h; cases h)
theorem len_of_sub : ∀ (a b : List Pr), a.Nodup → (∀ x ∈ a, x ∈ b) → a.length ≤ b.length
 | [], _, _, _ => Nat.zero_le _
 | x :: a, b, hn, hs => by
  have hx : x ∈ b := hs x (by simp)
  have h1 := List.nodup_cons.1 hn
  have := len_of_sub a (b.erase x) h1.2 (fun y hy => (List.mem_erase_of_ne (fun e => h1.1 (by rw [← e]; exact hy))).2 (hs y (by simp [hy])))
  rw [List.length_erase_of_mem hx] at this
  have := List.length_pos_of_mem hx
  simp only [List.length_cons]
  omega
theorem AdmW.len {W pre : List Pr} (h : AdmW W pre) : pre.length ≤ W.length := len_of_sub _ _ h.nodup h.2
theorem ranges_fr {w V : World} {S : Foot} {mb r n : Nat} {D : DataW Unit} {left : Lit → Bool} {cnt : Nat} (h : w.ranges Tryz.prog 9 elP mb r n D left cnt) (hf : Fr S w V) (h1 : ∀ o, ¬ S mb o) (h2 : ∀ o, ¬ S r o) : V.ranges Tryz.prog 9 elP mb r n D left cnt := by
 have l1 := h.owns.lt
 have l2 := h.lt
 obtain ⟨es, clock, since, seen, c0, hb, F, hs, hD, hr, rest⟩ := h
 exact ⟨es, clock, since, seen, c0, (hf.block mb l1 h1).trans hb, F, hs, hD, (hf.block r l2 h2).trans hr, rest⟩
end Bf
end Go.Proofs.YtecnijnmgdfdhaaGreat

namespace Go.Proofs.YtecnijnmgdfdhaaGreat
namespace Bf
open Go.RowKit Tr Tb
open Ky (less)
open Go.Maps (Keyed IsMap Tidy)
attribute [local go_sem] Oper.semAt_some
theorem contains_snoc (l : List Str) (x k : Str) : (l ++ [x]).contains k = (l.contains k || k == x) := by
 induction l with
 | nil => show ((k == x) || List.contains [] k) = (List.contains [] k || k == x); simp
 | cons a l ih => simp only [List.cons_append, List.contains_cons, ih, Bool.or_assoc]
structure GoesA (mb n : Nat) (D : DataW Unit) (W : List Pr) (J : (Nat → Prop) → List Pr → World → Prop) (K : Nat → Prop) (r : Nat) (pre : List Pr) (cnt : Nat) (wr : World) : Prop where
 j : J K pre wr
 kr : K r
 rg : ∃ left, wr.ranges Tryz.prog 9 elP mb r n D left cnt ∧ ∀ p ∈ W, left (.string p.1) = !(pre.map Prod.fst).contains p.1
 adm : AdmW W pre
def aFrame (l u r : Nat) (a : Act) : Prop := ∃ u2 u3 u4 u5 u7 u8 u9 u10 u11 u12 u13 u14 u15 u16 : Value, a = { tmps := #[(.func (.yield l) #[] #[]), (.pointer (some ⟨u, 0, none⟩)), u2, u3, u4, u5, .pointer (some ⟨r, 0, none⟩), u7, u8, u9, u10, u11, u12, u13, u14, u15, u16], defers := [] }
set_option maxHeartbeats 4000000 in
set_option maxRecDepth 100000 in
theorem all1_tells {w : World} {W : List Pr} {pt : Str → Nat} {D : DataW Unit} {mb u : Nat} {R : Nat → Prop} (hM : MapIs D pt W ∧ Sorted W ∧ OkW W) (hc : w.cell? ⟨u, 0, none⟩ = some (.map (some mb)))
  (ho : w.ownsMap Tryz.prog 9 elP mb W.length D) (hR : R mb) :
  TellsA Tryz.prog 119 #[.pointer (some ⟨u, 0, none⟩)] (encW pt) (AdmW W) (FinW W) R (fun _ => False) w := by
 intro l J hJ hY h0
 refine calls_marks Tryz.func119 rfl ?_
 simp only [Tryz.ntmps119, List.size_toArray, List.length_cons, List.length_nil, Nat.reduceAdd, Nat.reduceSub, Array.replicate_succ, Array.replicate_zero, List.push_toArray, List.append_toArray, List.nil_append, List.cons_append]
 have HM := Lib.hid hM
 have HO := Lib.hid ho
 have HY := Lib.hid hY
 have HJ := Lib.hid hJ
 have H0 := Lib.hid h0
 have HR := Lib.hid hR
 clear hM ho hY hJ h0 hR
 obtain ⟨r, hr⟩ : ∃ r, w.heap.size = r := ⟨_, rfl⟩
 gi_wp2_with (first
  | (gi_at_range; refine wpListIn_range_own _ rfl _ 86 rfl 9 89 kLaw Tryz.underlying86 elP mb W.length D rfl HO.out ?_; intro w1 hrg1 hg1 hs1)
  | gi_in)
 try go_frame
 try rw [hr] at hrg1
 have H1 : Hid (GoesA mb W.length D W J (fun k => k = r) r [] (Go.Maps.size D) w1) := Lib.hid ⟨HJ.out _ _ [] w w1 H0.out ((Fr.grown hg1).mono (fun _ _ h => by cases h)) (fun k hk => .inr (by omega)), rfl, ⟨_, hrg1, fun p hp => by
  rw [HM.out.1.has, (mem_get HM.out.2.1).2 (show (p.1, p.2) ∈ W from hp)]; rfl⟩, AdmW.nil W⟩
 clear hrg1 hg1 hs1 hc
 refine wpIn_wide.2 (wp_loop_ghost_k (fun N a wr => ∃ (K : Nat → Prop) (pre : List Pr), aFrame l u r a ∧ Hid (GoesA mb W.length D W J K r pre N wr)) (Go.Maps.size D) ⟨_, [], ⟨_, _, _, _, _, _, _, _, _, _, _, _, _, _, rfl⟩, H1⟩ ?round)
 case round =>
  intro N a wr hrel J' K' hJ' hK'
  refine (wpIn_wide (n := 3)).1 ?_
  obtain ⟨K, pre, ⟨u2, u3, u4, u5, u7, u8, u9, u10, u11, u12, u13, u14, u15, u16, rfl⟩, HB⟩ := hrel
  obtain ⟨left, hrg, hleft⟩ := HB.out.rg
  have HLe := Lib.hid hleft
  clear hleft
  gi_wp2_with (first
   | (gi_at_next; refine wpListIn_next_ranges _ rfl _ rfl 9 kLaw elP (fun x : Str => .string ⟨x.toArray⟩) ptrO invK invV mb r W.length D left N rfl hrg ?_ ?_)
   | gi_in)
  ·intro _ hl0
   have HF : Hid (FinW W pre) := Lib.hid ⟨HB.out.adm, fun p hp => by
    have h1 := HLe.out p hp
    rw [hl0] at h1
    have h2 : p.1 ∈ pre.map Prod.fst := by simpa using h1.symm
    obtain ⟨q, hq, he⟩ := List.mem_map.1 h2
    have h3 := (mem_get HM.out.2.1).2 (show (q.1, q.2) ∈ W from HB.out.adm.2 q hq)
    have h4 := (mem_get HM.out.2.1).2 (show (p.1, p.2) ∈ W from hp)
    rw [he, h4] at h3
    have : p = q := Prod.ext he.symm (Option.some.inj h3)
    rw [this]; exact hq⟩
   clear hl0 hrg
   gi_wp2
   exact leave_none ⟨_, results_none rfl _ _ _, ⟨_, rfl⟩, K, fun _ h => h.elim, pre, HF.out, HB.out.j⟩
  ·intro x c kl yd yp w1 cnt1 hk hlx hy hat hrg1 hlt hg1 hs1 hen
   obtain ⟨rfl, v, hv, rfl⟩ := came (y := (yd, yp)) HM.out.1 hk hy hat
   have hmem : (x, v) ∈ W := (mem_get HM.out.2.1).1 hv
   have hnot : x ∉ pre.map Prod.fst := by
    have h1 := HLe.out _ hmem
    rw [hlx] at h1
    simpa using h1.symm
   have hadm := HB.out.adm.snoc hmem hnot
   have hj := HJ.out K K pre wr w1 HB.out.j ((Fr.grown hg1).mono (fun b _ h => by have := Option.some.inj h; rw [← this]; exact HB.out.kr)) (fun k h => .inl h)
   obtain ⟨fn, tm, as_, bd, hyy, hRd⟩ := HY.out K pre (x, v) w1 hadm (fun _ h => h.elim) hj 2
   simp only [encW] at hyy
   have HRd := Lib.hid hRd
   have HX : Hid (∀ W2 : World, Fr (fun k _ => ¬ K k ∧ ¬ R k) w1 W2 → J K (pre ++ [(x, v)]) W2 → GoesA mb W.length D W J K r (pre ++ [(x, v)]) cnt1 W2) := Lib.hid (fun W2 hf hj2 => by
    refine ⟨hj2, HB.out.kr, ⟨_, ranges_fr hrg1 hf (fun _ h => h.2 HR.out) (fun _ h => h.1 HB.out.kr), fun p hp => ?_⟩, hadm⟩
    rw [List.map_append, List.map_cons, List.map_nil, contains_snoc, Bool.not_or, ← HLe.out p hp, ← same_str])
   have HLt := Lib.hid hlt
   have hen2 : (Instr.entry (.pointer (some ⟨r, 0, none⟩))).run Tryz.prog w1 = .ok (.tuple #[.string ⟨x.toArray⟩, ptrO (elC pt x v)]) w1 := hen
   obtain ⟨z, hz⟩ : ∃ z, ptrO (elC pt x v) = z := ⟨_, rfl⟩
   rw [hz] at hen2 hyy ⊢
   clear hk hlx hy hat hrg1 hlt hg1 hs1 hen hmem hnot hadm hj hRd hv hrg hz
   gi_wp2
   refine HRd.out.mono ?_
   rintro e W2 ⟨hf2, rfl, hj2⟩
   have HW2 := Lib.hid (HX.out W2 hf2 hj2)
   clear hf2 hj2
   gi_wp2
   exact Handed.intro cnt1 HLt.out (hJ' _ _ _ ⟨K, pre ++ [(x, v)], ⟨_, _, _, _, _, _, _, _, _, _, _, _, _, _, rfl⟩, HW2⟩)
end Bf
end Go.Proofs.YtecnijnmgdfdhaaGreat

namespace Go.Proofs.YtecnijnmgdfdhaaGreat
namespace Bf
open Go.RowKit Tr Tb
open Ky (less)
open Go.Sort (HoldsK flatK SortedIn PermIn SWO)
abbrev WQ := Pr × Nat
def wsE (q : WQ) : List Value := [.string ⟨q.1.1.toArray⟩, ptrO (elC (fun _ => q.2) q.1.1 q.1.2)]
def wsV (qs : List WQ) : List Value := qs.flatMap wsE
theorem wsV_cons (q : WQ) (qs : List WQ) : wsV (q :: qs) = .string ⟨q.1.1.toArray⟩ :: ptrO (elC (fun _ => q.2) q.1.1 q.1.2) :: wsV qs := rfl
theorem wsV_len (qs : List WQ) : (wsV qs).length = qs.length * 2 := by
 induction qs with
 | nil => rfl
 | cons q qs ih => rw [wsV_cons, List.length_cons, List.length_cons, ih, List.length_cons]; omega
theorem wsV_app (qs rs : List WQ) : wsV (qs ++ rs) = wsV qs ++ wsV rs := by simp [wsV]
theorem wsE_one (q : WQ) : ∀ u ∈ wsE q, u.oneCell' = true := by
 intro u hu
 simp only [wsE, List.mem_cons, List.not_mem_nil, or_false] at hu
 rcases hu with rfl | rfl <;> rfl
theorem wsV_one (qs : List WQ) : ∀ u ∈ wsV qs, u.oneCell' = true := by
 intro u hu
 obtain ⟨e, _, h⟩ := List.mem_flatMap.1 hu
 exact wsE_one e u h
theorem wsV_get {qs : List WQ} {k : Nat} {q : WQ} (h : qs[k]? = some q) : (wsV qs)[k * 2]? = some (.string ⟨q.1.1.toArray⟩) ∧ (wsV qs)[k * 2 + 1]? = some (ptrO (elC (fun _ => q.2) q.1.1 q.1.2)) := by
 induction qs generalizing k with
 | nil => simp at h
 | cons d L ih =>
  match k, h with
  | 0, h => simp at h; subst h; simp [wsV_cons]
  | k + 1, h =>
   have h1 := ih (k := k) (by simpa using h)
   rw [wsV_cons, show (k + 1) * 2 = k * 2 + 1 + 1 by omega, List.getElem?_cons_succ, List.getElem?_cons_succ, List.getElem?_cons_succ, List.getElem?_cons_succ]
   exact h1
structure CW (W0 : World) (Bx : Nat) (K : Nat → Prop) (qs : List WQ) (F : Foot) (a : Option Addr) (c : Nat) (Wc : World) : Prop where
 sl : Sl Wc 2 F a qs.length c (wsV qs)
 lies : Lies Wc F
 new : ∀ k o, F k o → W0.heap.size ≤ k ∧ ¬ K k
 box : Wc.cell? ⟨Bx, 0, none⟩ = some (.slice a qs.length c)
 froz : Wc.frozen? ⟨Bx, 0, none⟩ = false
 fr : Fr (fun k _ => k = Bx) W0 Wc
 own : ∀ k, K k → W0.heap.size ≤ k ∧ k < Wc.heap.size
 rows : ∀ q ∈ qs, ∀ b s, q.1.2 = b :: s → W0.heap.size ≤ q.2 ∧ ¬ K q.2 ∧ (∀ o, ¬ F q.2 o) ∧ ∀ i, i < 4 → Wc.cell? ⟨q.2, i, none⟩ = some (.int .i64 (col (decT s) i))
 nil : qs = [] → a = none ∧ c = 0
def CWI (W0 : World) (Bx : Nat) (K : Nat → Prop) (pre : List Pr) (Wc : World) : Prop := ∃ (qs : List WQ) (F : Foot) (a : Option Addr) (c : Nat), qs.map Prod.fst = pre ∧ CW W0 Bx K qs F a c Wc
section
variable {W0 W1 Wa W2 : World} {Bx : Nat} {K : Nat → Prop} {qs : List WQ} {F F' : Foot} {a a' : Option Addr} {c c' : Nat} {q : WQ}
theorem CWI.clos (hB : Bx < W0.heap.size) : Clos (CWI W0 Bx) := by
 intro K K' pre W W' ⟨qs, F, a, c, hq, h⟩ hf hK
 have hBK : ¬ K Bx := fun h' => by have := (h.own Bx h').1; omega
 have hW := h.fr.size
 refine ⟨qs, F, a, c, hq, ⟨h.sl.fr hf (fun b o hb hk => (h.new b o hb).2 hk), h.lies.later hf, fun k o hk => ⟨(h.new k o hk).1, fun hk' => ?_⟩, cell_fr hf h.box hBK, (hf.froz Bx 0 (by omega) hBK).trans h.froz, h.fr.trans hf (fun b o hb => .inr (h.own b hb).1), fun k hk => ?_, fun q hq b s e => ?_, h.nil⟩⟩
 ·rcases hK k hk' with h' | h'
  ·exact (h.new k o hk).2 h'
  ·have := h.lies k o hk; omega
 ·have := hf.size
  rcases hK k hk with h' | h'
  ·have := h.own k h'; omega
  ·omega
 ·obtain ⟨r1, r2, r3, r4⟩ := h.rows q hq b s e
  refine ⟨r1, fun h' => ?_, r3, fun i hi => cell_fr hf (r4 i hi) r2⟩
  have h0 := block_of_cell (r4 0 (by omega))
  simp at h0
  rcases hK _ h' with h' | h'
  ·exact r2 h'
  ·omega
theorem CWI.start (hc : W0.cell? ⟨Bx, 0, none⟩ = some (.slice none 0 0)) (hf : W0.frozen? ⟨Bx, 0, none⟩ = false) : CWI W0 Bx (fun _ => False) [] W0 :=
 ⟨[], noCells, none, 0, rfl, ⟨Sl.none_ W0 2, fun _ _ h => h.elim, fun _ _ h => h.elim, hc, hf, Fr.refl _ _, fun _ h => h.elim, (fun _ h => by cases h), fun _ => ⟨rfl, rfl⟩⟩⟩
theorem CW.step (hB : Bx < W0.heap.size) (h : CW W0 Bx K qs F a c W1) (hb : Below W1.heap.size W1 Wa) (hq : ∀ b s, q.1.2 = b :: s → W1.heap.size ≤ q.2 ∧ ∀ i, i < 4 → Wa.cell? ⟨q.2, i, none⟩ = some (.int .i64 (col (decT s) i)))
  (k1 : Sl W2 2 F' a' (qs ++ [q]).length c' (wsV (qs ++ [q]))) (k2 : Fr F Wa W2) (k3 : Grew Wa F F') (k4 : Lies W2 F') (R : Nat → Prop) (hR : ∀ k, R k → k < W0.heap.size ∧ k ≠ Bx) :
  Fr (fun k _ => ¬ K k ∧ ¬ R k) W1 (W2.setCell ⟨Bx, 0, none⟩ (.slice a' (qs ++ [q]).length c')) ∧ CW W0 Bx K (qs ++ [q]) F' a' c' (W2.setCell ⟨Bx, 0, none⟩ (.slice a' (qs ++ [q]).length c')) := by
 have hBK : ¬ K Bx := fun h' => by have := (h.own Bx h').1; omega
 have hW := h.fr.size
 have hW2 := hb.size
 have hW3 := k2.size
 have nF : ∀ o, ¬ F Bx o := fun o h' => by have := (h.new Bx o h').1; omega
 have nF' : ∀ o, ¬ F' Bx o := fun o h' => by
  rcases k3 Bx o h' with h' | h'
  ·exact nF o h'
  ·omega
 have f1 : Fr (fun k o => F k o) W1 W2 := (Fr.ofBelow hb (fun k o => F k o)).trans k2 (fun _ _ h => .inl h)
 have hset := fr_own' W2 Bx (.slice a' (qs ++ [q]).length c')
 have hrow : ∀ (s : List UInt8) (p : Nat), W0.heap.size ≤ p → (∀ i, i < 4 → W2.cell? ⟨p, i, none⟩ = some (.int .i64 (col (decT s) i))) → ∀ i, i < 4 → (W2.setCell ⟨Bx, 0, none⟩ (.slice a' (qs ++ [q]).length c')).cell? ⟨p, i, none⟩ = some (.int .i64 (col (decT s) i)) := fun s p hp hc i hi =>
  cell_fr hset (hc i hi) (fun e => by omega)
 refine ⟨(f1.mono (fun k o h' => ⟨(h.new k o h').2, fun hr => by have := hR k hr; have := (h.new k o h').1; omega⟩)).trans hset (fun b o h' => ?_), ⟨k1.fr hset (fun b o h' h'' => ?_), k4.later hset, fun k o hk => ?_, ?_, by rw [World.frozen?_setCell]; exact (f1.froz Bx 0 (by omega) (nF 0)).trans h.froz, ?_, fun k hk => ⟨(h.own k hk).1, by have := (h.own k hk).2; simp; omega⟩, fun p hp b s e => ?_, fun e => by simp at e⟩⟩
 ·obtain ⟨rfl, rfl⟩ := h'
  exact .inl ⟨hBK, fun hr => (hR _ hr).2 rfl⟩
 ·obtain ⟨rfl, rfl⟩ := h''
  exact nF' _ h'
 ·rcases k3 k o hk with h' | h'
  ·exact h.new k o h'
  ·exact ⟨by omega, fun hk' => by have := (h.own k hk').2; omega⟩
 ·refine World.cell?_setCell_same' _ _ _ ?_
  rw [f1.cell Bx 0 (by omega) (nF 0), h.box]; rfl
 ·refine (h.fr.trans f1 (fun b o h' => .inr (h.new b o h').1)).trans hset (fun b o h' => .inl h'.1)
 ·rcases List.mem_append.1 hp with hp | hp
  ·obtain ⟨r1, r2, r3, r4⟩ := h.rows p hp b s e
   have h0 := block_of_cell (r4 0 (by omega))
   simp at h0
   refine ⟨r1, r2, fun o h' => ?_, hrow s p.2 r1 (fun i hi => cell_fr f1 (r4 i hi) (r3 i))⟩
   rcases k3 _ o h' with h' | h'
   ·exact r3 o h'
   ·omega
  ·simp only [List.mem_singleton] at hp
   subst hp
   obtain ⟨r1, r2⟩ := hq b s e
   have h0 := block_of_cell (r2 0 (by omega))
   simp at h0
   have nq : ∀ o, ¬ F p.2 o := fun o h' => by have := h.lies _ o h'; omega
   refine ⟨by omega, fun h' => by have := (h.own _ h').2; omega, fun o h' => ?_, hrow s p.2 (by omega) (fun i hi => cell_fr k2 (r2 i hi) (nq i))⟩
   rcases k3 _ o h' with h' | h'
   ·exact nq o h'
   ·omega
end
end Bf
end Go.Proofs.YtecnijnmgdfdhaaGreat
