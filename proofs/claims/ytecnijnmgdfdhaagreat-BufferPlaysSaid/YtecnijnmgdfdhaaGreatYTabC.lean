/- Joined: Tab8, Tab9, Tab10. -/
import Derived.Test.YtecnijnmgdfdhaaGreatYTab7
import Derived.Test.YtecnijnmgdfdhaaGreatYTreeF
import Derived.WalkMore
import Derived.Control
namespace Go.Proofs.YtecnijnmgdfdhaaGreat
namespace Tb
open Go.RowKit Tr
open Ky (less)
def nc (most : Nat) (b : Nat → Nat) (j : Nat) : List Value := .int .i64 most :: (List.range 5).map fun i => if i < j then ptrV (b i) else .pointer none
def trs (o : Nat) (b : Nat → Nat) : Nat → List Rs
 | 0 => []
 | j + 1 => TreeR (b j) o [] :: trs o b j
def updB (b : Nat → Nat) (j x : Nat) : Nat → Nat := fun i => if i = j then x else b i
theorem trs_congr {o : Nat} {b b' : Nat → Nat} : ∀ {j : Nat}, (∀ i, i < j → b i = b' i) → trs o b j = trs o b' j
 | 0, _ => rfl
 | j + 1, h => by unfold trs; rw [h j (by omega), trs_congr (fun i hi => h i (by omega))]
theorem nc_set (most : Nat) (b : Nat → Nat) (j x : Nat) (hj : j < 5) : (nc most b j).set (1 + j) (ptrV x) = nc most (updB b j x) (j + 1) := by
 have : j = 0 ∨ j = 1 ∨ j = 2 ∨ j = 3 ∨ j = 4 := by omega
 rcases this with rfl | rfl | rfl | rfl | rfl <;> rfl
theorem nc_get (most : Nat) (b : Nat → Nat) (j : Nat) (hj : j < 5) : (nc most b j)[1 + j]? = some (.pointer none) := by
 have : j = 0 ∨ j = 1 ∨ j = 2 ∨ j = 3 ∨ j = 4 := by omega
 rcases this with rfl | rfl | rfl | rfl | rfl <;> rfl
section
variable {B : Nat} {w0 w V : World} {X Y : List Rs} {tb most o : Nat} {L : List Pr} {k : Str}
theorem own_cellSet {P i : Nat} {vs : List Value} (h : Own B w0 (CellsR P vs :: X) w) (hi : i < vs.length) (v : Value) : Own B w0 (CellsR P (vs.set i v) :: X) (w.setCell ⟨P, i, none⟩ v) := by
 obtain ⟨F, h1, _, hk⟩ := h.open1
 exact hk _ [_] (CellsR.set h1 hi v)
set_option maxHeartbeats 1000000 in
theorem own_tabNew (most o : Nat) (hm : 1 ≤ most ∧ most ≤ 1024) (h2 : 2 ≤ o) (h16 : o ≤ 16) (h : Own B w0 X w) :
  Calls Tryz.prog 45 #[.int .i64 most, .int .i64 o] w fun e V => ∃ tb, e = .returned (.tuple #[ptrV tb, .int .i64 0]) ∧ Own B w0 (TabR tb most o [] :: X) V := by
 have HN := Lib.hid (fun V Y (h : Own B w0 Y V) => own_new o h2 h16 h)
 have H0 := Lib.hid (own_cells h #[.int .i64 most, .pointer none, .pointer none, .pointer none, .pointer none, .pointer none] 124)
 have HM := Lib.hid hm
 have g1 : ¬ (most : Int) < 1 := by omega
 have g2 : ¬ (1024 : Int) < most := by omega
 have hd : decide ((most : Int) < 1) = false := by simpa using g1
 obtain ⟨tb, htb⟩ : ∃ tb, w.heap.size = tb := ⟨_, rfl⟩
 rw [htb] at H0
 clear h hm h2 h16
 go_enter Tryz.func45, Tryz.ntmps45
 go_wp2
 clear htb
 go_loopw [19] (fun i wr => ∃ (j : Nat) (b : Nat → Nat), j ≤ 5 ∧ i = .int .i64 j ∧ Hid (Own B w0 (CellsR tb (nc most b j) :: (trs o b j ++ X)) wr)) (fun i _ => 5 - (intOf i).toNat)
 case atStart => exact ⟨0, fun _ => 0, by omega, rfl, H0⟩
 case round =>
  obtain ⟨j, b, hj, rfl, HJ⟩ := hrel
  have k0 : (0 : Int) ≤ (j : Int) := by omega
  by_cases hlt : j < 5
  ·have k1 : (j : Int) < 5 := by omega
   go_wp2_with (go_at_call 73; refine (HN.out _ _ HJ.out).mono ?_; rintro e V ⟨x, rfl, h3⟩; have H3 := Lib.hid h3.swap; obtain ⟨y0, y1⟩ := own_cellM h3.swap (List.mem_cons_self ..) (i := 1 + j) (nc_get most b j hlt); clear h3)
   go_roundw
   case rel =>
    refine ⟨j + 1, updB b j x, by omega, by go_num, Lib.hid ?_⟩
    have h4 := own_cellSet H3.out (i := 1 + j) (by simp [nc]; omega) (ptrV x)
    rw [nc_set most b j x hlt] at h4
    have e1 : trs o (updB b j x) (j + 1) = TreeR x o [] :: trs o b j := by
     show TreeR (updB b j x j) o [] :: trs o (updB b j x) j = _
     rw [trs_congr (b' := b) (fun i hi => by unfold updB; rw [if_neg (by omega)]), show updB b j x j = x by simp [updB]]
    rw [e1]
    exact h4
   case measure => simp [intOf]; omega
  ·obtain rfl : j = 5 := by omega
   go_wp2
   go_ret2
   refine ⟨tb, rfl, ?_⟩
   refine own_untab (b := b) ⟨OkT.nil, by simp, HM.out.1, HM.out.2⟩ ?_
   refine HJ.out.perm ?_
   refine List.Perm.cons _ (List.Perm.append_right X ?_)
   exact (List.reverse_perm (trs o b 5)).symm
end
end Tb
end Go.Proofs.YtecnijnmgdfdhaaGreat

namespace Go.Proofs.YtecnijnmgdfdhaaGreat
namespace Tb
open Go.RowKit Tr
open Ky (less)
attribute [local go_sem] Oper.semAt_some
def vOf (s : Str) : Int := Ky.dec (s.take 8)
def kOf (s : Str) : Str := s.drop 8
def OkE (s : Str) : Prop := ∃ v k, Ky.In v ∧ Ks.okKey k = true ∧ s = Ky.put v k
theorem vOf_put {v : Int} (h : Ky.In v) (k : Str) : vOf (Ky.put v k) = v := by
 unfold vOf Ky.put
 rw [List.take_left' (Ky.enc_length v)]
 exact Ky.dec_enc h
theorem kOf_put (v : Int) (k : Str) : kOf (Ky.put v k) = k := by
 unfold kOf Ky.put
 rw [List.drop_left' (Ky.enc_length v)]
theorem eight {l : List UInt8} (h : l.length = 8) : ∃ b0 b1 b2 b3 b4 b5 b6 b7, l = [b0, b1, b2, b3, b4, b5, b6, b7] := by
 match l, h with
 | [b0, b1, b2, b3, b4, b5, b6, b7], _ => exact ⟨_, _, _, _, _, _, _, _, rfl⟩
theorem getK_any (s : Str) (h : OkE s) (w : World) : Calls Tryz.prog 88 #[.string ⟨s.toArray⟩] w fun e V => e = .returned (.tuple #[Ks.entV (vOf s) (kOf s), .int .i64 0]) ∧ Below w.heap.size w V := by
 obtain ⟨v, k, hv, hk, rfl⟩ := h
 rw [vOf_put hv, kOf_put]
 obtain ⟨b0, b1, b2, b3, b4, b5, b6, b7, he⟩ := eight (Ky.enc_length v)
 have h1 := Ks.get_good8 b0 b1 b2 b3 b4 b5 b6 b7 k hk w
 rw [← he, Ky.dec_enc hv] at h1
 exact h1
set_option maxHeartbeats 400000 in
theorem entriesC_any (c : Nat) (f : Value) (hf : f = .func (.func 59) #[ptrV c] #[]) (w : World) :
  Calls Tryz.prog 58 #[f] w fun e V => e = .returned (.func (.func 87) #[] #[.pointer (some ⟨w.heap.size, 0, none⟩)]) ∧ w.alloc (.cells #[f] 118) = V := by
 subst hf
 go_enter Tryz.func58, Tryz.ntmps58
 go_wp2
 go_ret
 exact ⟨rfl, rfl⟩
structure Goes (b o h : Nat) (g : G) (c Bn : Nat) (s t : Str) (R : Nat → Prop) (J : (Nat → Prop) → List Pr → World → Prop) (K : Nat → Prop) (pre rest : List Pr) (wr : World) : Prop where
 j : J K pre wr
 kc : K c
 tr : TreeAt wr b o h g
 cb : wr.cell? ⟨Bn, 0, none⟩ = some (.func (.func 59) #[ptrV c] #[])
 at_ : ∃ a, CurAt wr c b s t a ∧ rest = Tr.rng a t (flat h g)
def entE (p : Pr) : Array Value := #[Ks.entV (vOf p.1) (kOf p.1)]
def cFrame (l Bn : Nat) (a : Act) : Prop := ∃ u2 u3 u4 u5 u6 u7 u8 u9 u10 u11 u12 u13 u14 u15 u16 u17 u18 u19 u20 u21 u22 u23 u24 u25 u26 u27 u28 : Value, a = { tmps := #[(.func (.yield l) #[] #[]), (.pointer (some ⟨Bn, 0, none⟩)), u2, u3, u4, u5, u6, u7, u8, u9, u10, u11, u12, u13, u14, u15, u16, u17, u18, u19, u20, u21, u22, u23, u24, u25, u26, u27, u28], defers := [] }
set_option maxHeartbeats 4000000 in
set_option maxRecDepth 100000 in
theorem entries1_tells (b o h : Nat) (g : G) (c Bn : Nat) (s t a0 : Str) (R : Nat → Prop) (W : World) (hT : TreeAt W b o h g) (hkey : ∀ p ∈ flat h g, OkE p.1) (hC : CurAt W c b s t a0) (hB : W.cell? ⟨Bn, 0, none⟩ = some (.func (.func 59) #[ptrV c] #[]))
  (hRt : ∀ k x, treeF b h g k x → R k) (hRB : R Bn) (hcB : c ≠ Bn) (hct : ∀ x, ¬ treeF b h g c x) :
  Tells True Tryz.prog 87 #[.pointer (some ⟨Bn, 0, none⟩)] entE (Tr.rng a0 t (flat h g)) R (fun k => k = c) W := by
 intro l J Jx hst hJ hJx hY h0
 clear hst
 refine calls_marks Tryz.func87 rfl ?_
 simp only [Tryz.ntmps87, List.size_toArray, List.length_cons, List.length_nil, Nat.reduceAdd, Nat.reduceSub, Array.replicate_succ, Array.replicate_zero, List.push_toArray, List.append_toArray, List.nil_append, List.cons_append]
 obtain ⟨xs, hxs⟩ : ∃ xs, Tr.rng a0 t (flat h g) = xs := ⟨_, rfl⟩
 rw [hxs] at hY ⊢
 have H0 : Hid (Goes b o h g c Bn s t R J (fun k => k = c) [] xs W) := Lib.hid ⟨h0, rfl, hT, hB, a0, hC, hxs.symm⟩
 have HY := Lib.hid hY
 have HD := Lib.hid (And.intro hkey (And.intro hRt (And.intro hRB (And.intro hcB (And.intro hct hT.good.sorted)))))
 have HS := Lib.hid (And.intro hJ hJx)
 clear hJ hJx hY h0 hT hkey hC hB hRt hRB hcB hct hxs
 gi_wp2
 refine wpIn_wide.2 (wp_loop_ghost_k (fun N a wr => ∃ (K : Nat → Prop) (pre rest : List Pr), rest.length = N ∧ xs = pre ++ rest ∧ cFrame l Bn a ∧ Hid (Goes b o h g c Bn s t R J K pre rest wr)) xs.length ⟨_, [], xs, rfl, rfl, ⟨_, _, _, _, _, _, _, _, _, _, _, _, _, _, _, _, _, _, _, _, _, _, _, _, _, _, _, rfl⟩, H0⟩ ?round)
 case round =>
  intro N a wr hrel J' K' hJ' hK'
  refine (wpIn_wide (n := 3)).1 ?_
  obtain ⟨K, pre, rest, hN, hxs, ⟨u2, u3, u4, u5, u6, u7, u8, u9, u10, u11, u12, u13, u14, u15, u16, u17, u18, u19, u20, u21, u22, u23, u24, u25, u26, u27, u28, rfl⟩, HB⟩ := hrel
  have b0 := HB.out.cb
  obtain ⟨at_, hat, hrest⟩ := HB.out.at_
  have HX := Lib.hid (And.intro hN hxs)
  rcases rng_step (s := at_) (t := t) HD.out.2.2.2.2.2 with ⟨hs, hnil⟩ | ⟨q, hc, hs, hcons⟩
  ·-- nothing comes
   rw [hnil] at hrest
   have HN := Lib.hid (nextC_stop c b o h g s t at_ wr HB.out.tr hat hs)
   have HR := Lib.hid hrest
   clear hat hrest hs hnil hN hxs
   gi_wp2_with (refine ⟨trivial, ?_⟩; gi_at_call 59; refine (callsIn_wide.2 HN.out).mono ?_; rintro e V ⟨rfl, hb⟩; have HV := Lib.hid hb; clear hb)
   refine leave_none ⟨_, results_none rfl _ _ _, ⟨_, rfl⟩, K, ?_, .inl ?_⟩
   ·rintro k rfl; exact HB.out.kc
   ·have := HS.out.1 K K pre _ _ HB.out.j (Fr.ofBelow HV.out _) (fun k h => .inl h)
    rwa [HX.out.2, HR.out, List.append_nil]
  ·have hqm : q ∈ flat h g := by
    have : q ∈ Tr.rng at_ t (flat h g) := by rw [hcons]; simp
    exact (rng_mem.1 this).1
   rw [hcons] at hrest
   have hoe := HD.out.1 q hqm
   have HN := Lib.hid (nextC_go c b o h g s t at_ q wr HB.out.tr hat hc hs (by obtain ⟨v, k, _, hk, e⟩ := hoe; rw [e]; unfold Ky.put; rw [List.length_append, Ky.enc_length]; have := of_decide_eq_true hk; omega))
   have HG := Lib.hid (fun V => getK_any q.1 hoe V)
   obtain ⟨rest', hrr⟩ : ∃ r, Tr.rng (q.1 ++ [0]) t (flat h g) = r := ⟨_, rfl⟩
   rw [hrr] at hrest
   have HR := Lib.hid hrest
   have HY2 : Hid (∀ V, CurAt V c b s t (q.1 ++ [0]) → Fr (fun k _ => k = c) wr V → YieldAt Fence.wide 2 Tryz.prog l (entE q) V fun e W' => (e = .returned (.bool true) ∧ Hid (Goes b o h g c Bn s t R J K (pre ++ [q]) rest' W')) ∨ (e = .returned (.bool false) ∧ Hid (Jx K (pre ++ [q]) W'))) := Lib.hid (fun V hcur hfr => by
    have hB := HB.out
    have hjV := HS.out.1 K K pre _ _ hB.j (hfr.mono (fun k _ e => by rw [e]; exact hB.kc)) (fun k h => .inl h)
    obtain ⟨fn, tm, as_, bd, hy, hRd⟩ := HY.out K pre q rest' V (by rw [HX.out.2, hrest]) (by rintro k rfl; exact hB.kc) hjV 2
    refine ⟨fn, tm, as_, bd, hy, hRd.mono ?_⟩
    rintro e W' ⟨hf2, ⟨rfl, hj⟩ | ⟨rfl, hj⟩⟩
    ·refine .inl ⟨rfl, Lib.hid ⟨hj, hB.kc, (hB.tr.fr hfr (fun k x hx e => HD.out.2.2.2.2.1 x (by rw [← e]; exact hx))).fr hf2 (fun k x hx e => e.2 (HD.out.2.1 k x hx)), ?_, q.1 ++ [0], hcur.fr hf2 (fun _ e => e.1 hB.kc), hrr.symm⟩⟩
     exact cell_fr hf2 (cell_fr hfr hB.cb (fun e => HD.out.2.2.2.1 e.symm)) (fun e => e.2 HD.out.2.2.1)
    ·exact .inr ⟨rfl, Lib.hid hj⟩)
   clear hat hrest hs hcons hc hqm hN hxs hrr hoe
   gi_wp2_with (first
    | (refine ⟨trivial, ?_⟩; gi_at_call 59; refine (callsIn_wide.2 HN.out).mono ?_; rintro e V ⟨rfl, hcur, hfr⟩; have HV := Lib.hid (And.intro hcur hfr); clear hcur hfr)
    | (refine ⟨trivial, ?_⟩; gi_at_call 88; refine (callsIn_wide.2 (HG.out _)).mono ?_; rintro e V2 ⟨rfl, hb⟩; have HV2 : Hid (CurAt (V2.alloc (.cells #[.int .i64 (vOf q.1), .string ⟨(kOf q.1).toArray⟩] 119)) c b s t (q.1 ++ [0]) ∧ Fr (fun k _ => k = c) wr (V2.alloc (.cells #[.int .i64 (vOf q.1), .string ⟨(kOf q.1).toArray⟩] 119))) := Lib.hid ⟨(HV.out.1.later hb).later (al1 V2 _), (HV.out.2.trans (Fr.ofBelow hb noCells) (fun _ _ h => h.elim)).alloc _⟩; clear hb; obtain ⟨fn, tm, as_, bd, hy, hRd⟩ := HY2.out _ HV2.out.1 HV2.out.2; simp only [entE] at hy; have HRd := Lib.hid hRd; clear hRd))
   refine HRd.out.mono ?_
   rintro e W2 (⟨rfl, HW2⟩ | ⟨rfl, HW2⟩)
   ·gi_wp2
    obtain ⟨hN, hxs⟩ := HX.out
    rw [HR.out] at hN hxs
    simp only [List.length_cons] at hN
    subst hN
    exact Handed.intro rest'.length (by omega) (hJ' _ _ _ ⟨K, pre ++ [q], rest', rfl, by rw [hxs]; simp, ⟨_, _, _, _, _, _, _, _, _, _, _, _, _, _, _, _, _, _, _, _, _, _, _, _, _, _, _, rfl⟩, HW2⟩)
   ·gi_wp2
    refine leave_none ⟨_, results_none rfl _ _ _, ⟨_, rfl⟩, K, ?_, .inr ⟨pre, q, rest', ?_, HW2.out⟩⟩
    ·rintro k rfl; exact HB.out.kc
    ·rw [HX.out.2, HR.out]
end Tb
end Go.Proofs.YtecnijnmgdfdhaaGreat

namespace Go.Proofs.YtecnijnmgdfdhaaGreat
namespace Tb
open Go.RowKit Tr
open Ky (less)
attribute [local go_sem] Oper.semAt_some
theorem infoStr : (Tryz.prog.info? 9).map (fun i => (i.zero, i.size, i.bytes)) = some (some (.string ⟨#[]⟩), 1, 16) := by kernel_rfl
def keysV (l : List Pr) : List Value := l.map fun p => .string ⟨(kOf p.1).toArray⟩
def hits (c : Nat) (lo hi : Int) (L : List Pr) : List Pr := Tr.rng (Ky.enc lo) (Ks.bend hi) (idx c L)
section
variable {B : Nat} {w0 w V : World} {X Y : List Rs} {tb most o : Nat} {L : List Pr}
theorem findTb_col (tb : Nat) (col lo hi m : Int) (hc : col < 0 ∨ 4 ≤ col) (w : World) :
  Calls Tryz.prog 27 #[ptrV tb, .int .i64 col, .int .i64 lo, .int .i64 hi, .int .i64 m] w fun e V => e = .returned (.tuple #[.slice none 0 0, .int .i64 10]) ∧ Below w.heap.size w V := by
 refine calls_marks Tryz.func27 rfl ?_
 simp only [Tryz.ntmps27, List.size_toArray, List.length_cons, List.length_nil, Nat.reduceAdd, Nat.reduceSub, Array.replicate_succ, Array.replicate_zero, List.push_toArray, List.append_toArray, List.nil_append, List.cons_append]
 refine wpIn_wide.2 ?_
 by_cases h1 : col < 0
 ·have hd : decide (col < 0) = true := by simpa using h1
  clear hc
  go_wp2
  exact leave_none ⟨_, results_tmp2 rfl _ _ _, rfl, al1 w _⟩
 ·have hd : decide (col < 0) = false := by simpa using h1
  have h2 : 4 ≤ col := by omega
  clear hc
  go_wp2
  exact leave_none ⟨_, results_tmp2 rfl _ _ _, rfl, al1 w _⟩
theorem findTb_bad (tb c : Nat) (hc : c < 4) (lo hi m : Int) (hl : hi < lo) (w : World) :
  Calls Tryz.prog 27 #[ptrV tb, .int .i64 c, .int .i64 lo, .int .i64 hi, .int .i64 m] w fun e V => e = .returned (.tuple #[.slice none 0 0, .int .i64 10]) ∧ Below w.heap.size w V := by
 have HBd := Lib.hid (fun W => Ks.bounds_bad lo hi hl W)
 have k0 : (0 : Int) ≤ (c : Int) := by omega
 have k1 : (c : Int) < 4 := by omega
 have hd : decide ((c : Int) < 0) = false := by simp
 clear hl hc
 refine calls_marks Tryz.func27 rfl ?_
 simp only [Tryz.ntmps27, List.size_toArray, List.length_cons, List.length_nil, Nat.reduceAdd, Nat.reduceSub, Array.replicate_succ, Array.replicate_zero, List.push_toArray, List.append_toArray, List.nil_append, List.cons_append]
 refine wpIn_wide.2 ?_
 go_wp2_with (go_at_call 55; refine (HBd.out _).mono ?_; rintro e V ⟨rfl, rfl⟩)
 exact leave_none ⟨_, results_tmp2 rfl _ _ _, rfl, al1 w _⟩
theorem findTb_neg (tb c : Nat) (hc : c < 4) (lo hi m : Int) (h1 : Ky.In lo) (h2 : Ky.In hi) (hl : ¬ hi < lo) (hm : m < 0) (w : World) :
  Calls Tryz.prog 27 #[ptrV tb, .int .i64 c, .int .i64 lo, .int .i64 hi, .int .i64 m] w fun e V => e = .returned (.tuple #[.slice none 0 0, .int .i64 23]) ∧ Below w.heap.size w V := by
 have HBd := Lib.hid (fun W => Ks.bounds_good lo hi h1 h2 hl W)
 obtain ⟨t, ht⟩ : ∃ t, Ks.bend hi = t := ⟨_, rfl⟩
 rw [ht] at HBd
 obtain ⟨W, hW⟩ : ∃ W, w.alloc (.cells #[.int .i64 m] 3) = W := ⟨_, rfl⟩
 have hcm : W.cell? ⟨w.heap.size, 0, none⟩ = some (.int .i64 m) := by rw [← hW]; simp
 have hb : Below w.heap.size w W := by rw [← hW]; exact al1 w _
 have HB := Lib.hid (And.intro hb hcm)
 have k0 : (0 : Int) ≤ (c : Int) := by omega
 have k1 : (c : Int) < 4 := by omega
 have hd : decide ((c : Int) < 0) = false := by simp
 clear hl hc h1 h2 ht hb hcm
 refine calls_marks Tryz.func27 rfl ?_
 simp only [Tryz.ntmps27, List.size_toArray, List.length_cons, List.length_nil, Nat.reduceAdd, Nat.reduceSub, Array.replicate_succ, Array.replicate_zero, List.push_toArray, List.append_toArray, List.nil_append, List.cons_append]
 refine wpIn_wide.2 ?_
 go_wp2_with (go_at_call 55; refine (HBd.out _).mono ?_; rintro e V ⟨rfl, hb⟩; have H1 := Lib.hid hb; have hc := old_cell HB.out.2 hb; clear hb)
 exact leave_none ⟨_, results_tmp2 rfl _ _ _, rfl, HB.out.1.trans (H1.out.mono HB.out.1.size)⟩
theorem OkT.ents {L : List Pr} (h : OkT L) (c : Nat) {p : Pr} (hp : p ∈ idx c L) : OkE p.1 := by
 obtain ⟨_, q, hq, e⟩ := mem_idx.1 hp
 exact ⟨_, _, h.col hq c, (h q hq).1, e.symm⟩
set_option maxHeartbeats 4000000 in
set_option maxRecDepth 100000 in
theorem own_tabFind (c : Nat) (hc : c < 4) (lo hi : Int) (h1 : Ky.In lo) (h2 : Ky.In hi) (hl : ¬ hi < lo) (m : Nat) (h : Own B w0 (TabR tb most o L :: X) w) :
  Calls Tryz.prog 27 #[ptrV tb, .int .i64 c, .int .i64 lo, .int .i64 hi, .int .i64 m] w fun e V => ∃ (a : Option Addr) (k : Nat), e = .returned (.tuple #[.slice a ((hits c lo hi L).take m).length k, .int .i64 0]) ∧ Loc 1 w V a ((hits c lo hi L).take m).length k (keysV ((hits c lo hi L).take m)) := by
 obtain ⟨ok, b, hS⟩ := own_tab h
 have hs : Sorted L := own_tabSorted h
 obtain ⟨i0, hi0, hz0, hz1, hz2⟩ := info_parts infoStr
 obtain ⟨W, hW⟩ : ∃ W, w.alloc (.cells #[.int .i64 m] 3) = W := ⟨_, rfl⟩
 have hcm : W.cell? ⟨w.heap.size, 0, none⟩ = some (.int .i64 m) := by rw [← hW]; simp
 have hb : Below w.heap.size w W := by rw [← hW]; exact al1 w _
 have hsW : W.heap.size = w.heap.size + 1 := by rw [← hW]; simp
 obtain ⟨Y, hp, _⟩ := tree_out tb most o b (tabLs L) (c + 1) (by omega)
 obtain ⟨F1, ⟨hh, g, hT, hfl0, rfl⟩, _, _⟩ := (hS.perm (hp.append_right X)).open1
 have hfl : flat hh g = idx c L := hfl0
 clear hfl0
 have hcur : Ks.bend hi = [] ∨ less (Ks.bend hi) (Ky.enc lo) = false := by
  unfold Ks.bend
  split
  ·right
   rw [Ky.less_enc (by unfold Ky.In at *; omega) h1]
   simp; omega
  ·exact .inl rfl
 unfold hits
 have hhl : (idx c L).length ≤ 1024 := by rw [idx_len ok.ok hs]; have := ok.len; have := ok.hi; omega
 have hkey : ∀ p ∈ flat hh g, OkE p.1 := fun p hp => by rw [hfl] at hp; exact ok.ok.ents c hp
 have hlen : (flat hh g).length ≤ 1024 := by rw [hfl]; exact hhl
 have HBd := Lib.hid (fun W => Ks.bounds_good lo hi h1 h2 hl W)
 have HIx := Lib.hid (fun V (hb : Below w.heap.size w V) => index_any c hc (hS.later hb))
 rw [← hfl]
 obtain ⟨s, hs0⟩ : ∃ s, Ky.enc lo = s := ⟨_, rfl⟩
 obtain ⟨t, ht0⟩ : ∃ t, Ks.bend hi = t := ⟨_, rfl⟩
 rw [hs0, ht0] at HBd hcur ⊢
 obtain ⟨ys, hys⟩ : ∃ ys, (Tr.rng s t (flat hh g)).take m = ys := ⟨_, rfl⟩
 have HYs := Lib.hid hys
 rw [hys]
 clear hys
 obtain ⟨bt, hbt⟩ : ∃ bt, b (c + 1) = bt := ⟨_, rfl⟩
 rw [hbt] at HIx hT
 have HN := Lib.hid (fun V => newC_ok bt s t hcur V)
 have HD := Lib.hid (And.intro hT (And.intro hkey (And.intro hlen (And.intro hb (And.intro hcm hsW)))))
 have k0 : (0 : Int) ≤ (c : Int) := by omega
 have k1 : (c : Int) < 4 := by omega
 have hd : decide ((c : Int) < 0) = false := by simp
 have hmost : ¬ (m : Int) < 0 := by omega
 clear hl hc h1 h2 hb hcm hT hkey hlen hsW hcur hfl hhl hs ok hS h hp hs0 ht0 hbt
 refine calls_marks Tryz.func27 rfl ?_
 simp only [Tryz.ntmps27, List.size_toArray, List.length_cons, List.length_nil, Nat.reduceAdd, Nat.reduceSub, Array.replicate_succ, Array.replicate_zero, List.push_toArray, List.append_toArray, List.nil_append, List.cons_append]
 refine wpIn_wide.2 ?_
 go_wp2_with (first
  | (go_at_call 55; refine (HBd.out _).mono ?_; rintro e V1 ⟨rfl, hb⟩; have H1 := Lib.hid hb; have hc := old_cell HD.out.2.2.2.2.1 hb; clear hb)
  | (go_at_call 57; refine (HIx.out _ (HD.out.2.2.2.1.trans (H1.out.mono HD.out.2.2.2.1.size))).mono ?_; rintro e V2 ⟨rfl, rfl⟩)
  | (go_at_call 56; refine (HN.out _).mono ?_; rintro e V ⟨rfl, hcur, hb⟩; have H2 := Lib.hid (And.intro hcur (And.intro hb (old_cell hc hb))); clear hcur hb hc)
  | (go_at_call 58; refine (entriesC_any _ _ rfl _).mono ?_; rintro e V2 ⟨rfl, hV2⟩))
 obtain ⟨p, hp⟩ : ∃ p, w.heap.size = p := ⟨_, rfl⟩
 obtain ⟨d, hdd⟩ : ∃ d, V1.heap.size = d := ⟨_, rfl⟩
 obtain ⟨u, hu⟩ : ∃ u, V.heap.size = u := ⟨_, rfl⟩
 obtain ⟨xs, hxs⟩ : ∃ xs, Tr.rng s t (flat hh g) = xs := ⟨_, rfl⟩
 have HV := Lib.hid (And.intro hp (And.intro hdd (And.intro hu hxs)))
 have HW : Hid (V2.heap.size = u + 2 ∧ p < d ∧ d < u ∧ V2.cell? ⟨u, 0, none⟩ = some (.slice none 0 0) ∧ V2.frozen? ⟨u, 0, none⟩ = false ∧ V2.cell? ⟨u + 1, 0, none⟩ = some (.func (.func 59) #[ptrV d] #[]) ∧ V2.cell? ⟨p, 0, none⟩ = some (.int .i64 m) ∧ CurAt V2 d bt s t s ∧ Below w.heap.size w V2) := Lib.hid (by
  have hbV : Below V.heap.size V V2 := by rw [← hV2]; exact (al1 V _).trans ((al1 (V.alloc (.cells #[.slice none 0 0] 53)) _).mono (by simp))
  have hs := H2.out.2.1.size
  have hlt := block_of_cell H2.out.1.c0
  have hs1 := H1.out.size
  obtain ⟨d1, d2, d3, d4, d5, d6⟩ := HD.out
  have hbw1 : Below w.heap.size w V1 := d4.trans (H1.out.mono d4.size)
  have hbw : Below w.heap.size w V := hbw1.trans (H2.out.2.1.mono hbw1.size)
  refine ⟨by rw [← hV2, ← hu]; simp, by omega, by rw [← hdd, ← hu]; exact hlt, by rw [← hV2, ← hu]; exact old_cell (w := V.alloc (.cells #[.slice none 0 0] 53)) (by simp) (al1 _ _), ?_, by rw [← hV2, ← hu, ← hdd]; simp, by rw [← hp]; exact old_cell H2.out.2.2 hbV, by rw [← hdd]; exact H2.out.1.later hbV, hbw.trans (hbV.mono hbw.size)⟩
  rw [← hV2, ← hu]
  rw [(al1 (V.alloc (.cells #[.slice none 0 0] 53)) _).frozen (p := ⟨V.heap.size, 0, none⟩) (by simp)]
  simp)
 have HK : Hid (∀ W2 : World, Fr (fun k _ => k = u ∨ k = d) V2 W2 → W2.cell? ⟨p, 0, none⟩ = some (.int .i64 m)) := Lib.hid (fun W2 hf => by
  obtain ⟨e1, e2, e3, e4, e5, e6, e7, e8, e9⟩ := HW.out
  exact cell_fr hf e7 (by omega))
 have HTr : Hid (TreeAt V2 bt o hh g ∧ ∀ k x, treeF bt hh g k x → k < p) := Lib.hid ⟨HD.out.1.later HW.out.2.2.2.2.2.2.2.2, fun k x hx => by rw [← hp]; exact HD.out.1.m.lies k x hx⟩
 rw [hp, hdd, hu]
 clear hp hdd hu hxs hV2 hW
 refine (wpIn_wide (n := 3)).1 ?_
 refine' wpIn_range_box (by omega) (gf := 87) (lb := #[.pointer (some ⟨u + 1, 0, none⟩)]) rfl (enters_any Tryz.func87 (by kernel_rfl) rfl) (encs := entE) (stops := True) (xs := xs)
  (R := fun k => (∃ x, treeF bt hh g k x) ∨ k = u + 1) (K0 := fun k => k = d) (fun o1 o2 => ?seq) (fun x => rfl) ?rlt (fun k hk => by rw [hk, HW.out.1]; have := HW.out.2.2.1; omega)
  (fun K pre W' => pre.length ≤ m ∧ Coll2 1 keysV V2 u (fun k => k = d) K pre W') (fun cd K tl W' => cd = .exit 0 ∧ ∃ pre x, tl = pre ++ [x] ∧ pre.length = m ∧ Coll2 1 keysV V2 u (fun k => k = d) K pre W')
  ?clos1 ?clos2 (.inl trivial) ⟨Nat.zero_le _, Coll2.start rfl HW.out.2.2.2.1 HW.out.2.2.2.2.1⟩
  (fun x => .cells #[.int .i64 (vOf x.1), .string ⟨(kOf x.1).toArray⟩] 119) ?lo _ ?assign ?body ?done ?stop
 case lo =>
  rintro K pre W1 ⟨_, F, a, cc, h1, h2, h3, h4, h5, h6, h7⟩ k hk
  have := h6.size
  have h9 := HW.out
  rcases h7 k hk with rfl | h
  ·omega
  ·exact h.2
 case clos1 =>
  intro K K' pre W1 W2 ⟨h1, h2⟩ hf hK
  exact ⟨h1, Coll2.clos (by rw [HW.out.1]; omega) (by have := HW.out.2.2.1; omega) (fun k e => by rw [HW.out.1, e]; have := HW.out.2.2.1; omega) K K' pre W1 W2 h2 hf hK⟩
 case clos2 =>
  intro cd K K' tl W1 W2 ⟨h0, pre, x, h1, h2, h3⟩ hf hK
  exact ⟨h0, pre, x, h1, h2, Coll2.clos (by rw [HW.out.1]; omega) (by have := HW.out.2.2.1; omega) (fun k e => by rw [HW.out.1, e]; have := HW.out.2.2.1; omega) K K' pre W1 W2 h3 hf hK⟩
 case rlt =>
  intro k hk
  have := HW.out
  rcases hk with ⟨x, hx⟩ | rfl
  ·have := HTr.out.2 k x hx; omega
  ·omega
 case seq =>
  have hbo : Below V2.heap.size V2 ((V2.alloc o1).alloc o2) := (al1 V2 o1).trans ((al1 (V2.alloc o1) o2).mono (by simp))
  obtain ⟨e1, e2, e3, e4, e5, e6, e7, e8, e9⟩ := HW.out
  rw [← HV.out.2.2.2]
  exact entries1_tells bt o hh g d (u + 1) s t s _ _ (HTr.out.1.later hbo) HD.out.2.1 (e8.later hbo) (old_cell e6 hbo) (fun k x hx => .inl ⟨x, hx⟩) (.inr rfl) (by omega) (fun x hx => by have := HTr.out.2 d x hx; omega)
 case assign =>
  intro l' x W2 K1 hK1
  simp only [entE]
  gi_wp2
  obtain ⟨r, hr⟩ : ∃ r, W2.heap.size = r := ⟨_, rfl⟩
  rw [hr] at hK1 ⊢
  exact hK1
 case body =>
  rintro l' r K pre x post W2 hx _ ⟨hpm, F, a, cc, h1, h2, h3, h4, h5, h6, h7⟩ hbox hrK hrR hrS
  have y1 := HK.out W2 h6
  have y2 : W2.cell? ⟨r, 1, none⟩ = some (.string ⟨(kOf x.1).toArray⟩) := (cell_of_row W2 r 1 _ _ _ hbox).trans rfl
  have hn : pre.length + 1 ≤ 900000 := by
   have h1 := HD.out.2.2.1
   have h2 := rng_len s t (flat hh g)
   rw [HV.out.2.2.2, hx] at h2
   simp at h2
   omega
  obtain ⟨j, hj⟩ : ∃ j, pre.length = j := ⟨_, rfl⟩
  have HJ := Lib.hid hj
  have HS := Lib.hid (And.intro h1 (And.intro h2 (And.intro h3 (And.intro h6 h7))))
  have HB3 := Lib.hid (al1 W2 (.cells #[.string ⟨(kOf x.1).toArray⟩] 9))
  rw [hj] at h4 hn hpm
  clear h1 h2 h3 h6 h7 hx hj hbox hrK hrR hrS
  by_cases hjm : j = m
  ·subst hjm
   have HC : Hid (Coll2 1 keysV V2 u (fun k => k = d) K pre W2) := Lib.hid ⟨F, a, cc, HS.out.1, HS.out.2.1, HS.out.2.2.1, by rw [HJ.out]; exact h4, h5, HS.out.2.2.2.1, HS.out.2.2.2.2⟩
   gi_wp2
   exact ⟨Fr.refl _ _, rfl, pre, ⟨x.1, x.2, rfl⟩, HJ.out, HC.out⟩
  ·have hj1 : ¬ (j : Int) = (m : Int) := by omega
   have hlt : j + 1 ≤ m := by omega
   gi_wp2_with (gi_at_builtin; refine wpListIn_app_sl rfl (.tmp 58) (.tmp 61) 53 rfl 9 i0 _ 1 16 Tryz.underlying53 hi0 hz0 hz1 hz2 rfl (by decide) F a j cc (keysV pre) rfl (by have := HS.out.1.laid (.cells #[.string ⟨(kOf x.1).toArray⟩] 9); rwa [HJ.out] at this) (HS.out.2.1.laid _) (some ⟨W2.heap.size, 0, none⟩) 1 1 [.string ⟨(kOf x.1).toArray⟩] rfl (Rd.oneNew W2 _ _ rfl) (j + 1) (keysV (pre ++ [x])) rfl (by simp [keysV]) (by unfold maxLen; omega) (by omega) ?_; intro a' c' W3 F' k1 k2 k3 k4; have H3 := Lib.hid (And.intro k1 (And.intro k2 (And.intro k3 k4))); obtain ⟨hc3, hf3⟩ := Coll2.after (by rw [HW.out.1]; omega) HS.out.2.2.1 h4 h5 HB3.out k2; clear k1 k2 k3 k4)
   have e : (pre ++ [x]).length = j + 1 := by simp [HJ.out]
   have hst := Coll2.step (V := keysV) (pre := pre) (x := x) (K0 := fun k => k = d) (by rw [HW.out.1]; omega) (by have := HW.out.2.2.1; omega) (fun k e => by rw [HW.out.1, e]; have := HW.out.2.2.1; omega) HS.out.2.1 HS.out.2.2.1 HS.out.2.2.2.1 HS.out.2.2.2.2 HB3.out (by rw [e]; exact H3.out.1) H3.out.2.1 H3.out.2.2.1 H3.out.2.2.2 (by rw [h4]; rfl) h5 (fun k => (∃ x, treeF bt hh g k x) ∨ k = u + 1) (fun k hk => by
    have := HW.out
    rcases hk with ⟨x, hx⟩ | rfl
    ·have := HTr.out.2 k x hx; omega
    ·omega)
   refine ⟨?_, by rw [e]; exact hlt, ?_⟩
   ·have := hst.1
    rw [e] at this; exact this
   ·have := hst.2
    rw [e] at this; exact this
 case stop =>
  rintro D cd K pre' x' post' W3 hx ⟨rfl, pre, x, hpx, hpm, F, a, cc, h1, h2, h3, h4, h5, h6, h7⟩ _ hKD hsD hDef
  have hpp : pre' = pre := (List.append_inj' hpx rfl).1
  subst hpp
  have HTK : Hid (ys = pre') := Lib.hid (by rw [← HYs.out, HV.out.2.2.2, hx, ← hpm]; simp)
  clear hpm hx
  gi_wp2
  go_wp2
  (try rw [Exit.noGoto_ret])
  obtain ⟨hp, hdd, hu, hxs⟩ := HV.out
  obtain ⟨e1, e2, e3, e4, e5, e6, e7, e8, e9⟩ := HW.out
  refine leave_marks [D] W3 (by simp) (fun E hE => by simp at hE; subst hE; exact hDef) (fun W' hf => ?_)
  have hvv : ¬ (u ∈ [D]) := by simp; omega
  rw [HTK.out]
  have hWs := e9.size
  refine ⟨_, results_tmp2 rfl _ _ _, a, cc, rfl, F, h1.fr hf (fun b o hb hk => by simp at hk; subst hk; exact (h3 _ _ hb).2 hKD), h2.later hf, fun b o hb => Nat.le_trans hWs (h3 b o hb).1, e9.trans ?_⟩
  refine ((h6.trans hf (fun b o hb => .inr ?_)).below (B := w.heap.size) hWs (fun k x hk => ?_))
  ·simp at hb; subst hb; exact hsD
  ·rcases hk with rfl | rfl <;> omega
 case done =>
  rintro D K W3 ⟨hpm, F, a, cc, h1, h2, h3, h4, h5, h6, h7⟩ _ hKD hsD hDef
  have HTK : Hid (ys = xs) := Lib.hid (by rw [← HYs.out, HV.out.2.2.2]; exact List.take_of_length_le hpm)
  go_wp2
  (try rw [Exit.noGoto_ret])
  obtain ⟨hp, hdd, hu, hxs⟩ := HV.out
  obtain ⟨e1, e2, e3, e4, e5, e6, e7, e8, e9⟩ := HW.out
  refine leave_marks [D] W3 (by simp) (fun E hE => by simp at hE; subst hE; exact hDef) (fun W' hf => ?_)
  have hvv : ¬ (u ∈ [D]) := by simp; omega
  rw [HTK.out]
  have hWs := e9.size
  refine ⟨_, results_tmp2 rfl _ _ _, a, cc, rfl, F, h1.fr hf (fun b o hb hk => by simp at hk; subst hk; exact (h3 _ _ hb).2 hKD), h2.later hf, fun b o hb => Nat.le_trans hWs (h3 b o hb).1, e9.trans ?_⟩
  refine ((h6.trans hf (fun b o hb => .inr ?_)).below (B := w.heap.size) hWs (fun k x hk => ?_))
  ·simp at hb; subst hb; exact hsD
  ·rcases hk with rfl | rfl <;> omega
end
end Tb
end Go.Proofs.YtecnijnmgdfdhaaGreat
