/- Joined: Tree6, Tree7, Tree8, Tree9. -/
import Derived.Test.YtecnijnmgdfdhaaGreatYTree5
import Derived.Test.YtecnijnmgdfdhaaGreatYTr
namespace Go.Proofs.YtecnijnmgdfdhaaGreat
open Go.RowKit Tr
open Ky (less)

theorem Sl.setOne {w : World} {size : Nat} {F : Foot} {b o n c : Nat} {xs : List Value} (h : Sl w size F (some ⟨b, o, none⟩) n c xs) (j : Nat) (hj : j < n * size) (u : Value) (hu : u.oneCell' = true) :
  Sl (w.setCell ⟨b, o + j, none⟩ u) size F (some ⟨b, o, none⟩) n c (xs.set j u) := by
 have hlen := h.len
 have hnc := Nat.mul_le_mul_right size h.le
 obtain ⟨b', o', e, g1, g2, g3⟩ := h.at_ _ rfl (by omega)
 cases e
 refine h.redo n h.le _ (by rw [List.length_set]; exact hlen) (fun x hx => ?_) (fun _ => ⟨fun i x hx => ?_, fun i hi => ⟨?_, by rw [World.frozen?_setCell]; exact (g3 i hi).2⟩⟩)
 ·rcases List.mem_or_eq_of_mem_set hx with hx | rfl
  ·exact h.one x hx
  ·exact hu
 ·by_cases e : i = j
  ·subst e
   rw [List.getElem?_set_self (by omega)] at hx
   cases hx
   exact World.cell?_setCell_same' _ _ _ (g3 i (by omega)).1
  ·rw [List.getElem?_set_ne (by omega)] at hx
   rw [World.cell?_setCell_other _ _ _ _ (fun e2 => by simp only [Addr.mk.injEq, true_and, and_true] at e2; omega)]
   exact g2 i x hx
 ·by_cases e : i = j
  ·subst e
   rw [World.cell?_setCell_same' _ _ _ (g3 i hi).1]; rfl
  ·rw [World.cell?_setCell_other _ _ _ _ (fun e2 => by simp only [Addr.mk.injEq, true_and, and_true] at e2; omega)]
   exact (g3 i hi).1
theorem pairsV_set (C D : List Pr) (key u v : Str) : (pairsV (C ++ (key, u) :: D)).set (C.length * 2 + 1) (.string ⟨v.toArray⟩) = pairsV (C ++ (key, v) :: D) := by
 rw [pairsV_append, pairsV_append, pairsV_cons, pairsV_cons, List.set_append_right _ _ (by rw [pairsV_len]; omega), pairsV_len, show C.length * 2 + 1 - C.length * 2 = 1 by omega]
 rfl
theorem keepc {w : World} {b o c p : Nat} {u x : Value} (h : w.cell? ⟨b, o, none⟩ = some u) (hne : b ≠ c) : (w.setCell ⟨c, p, none⟩ x).drew.cell? ⟨b, o, none⟩ = some u :=
 (World.cell?_setCell_other _ _ _ _ (fun e => hne (by cases e; rfl))).trans h
theorem Top.setOne {w : World} {g : G} {pb po pc : Nat} {ka : Option Addr} {kc : Nat} (ht : Top w g (some ⟨pb, po, none⟩) pc ka kc) (j : Nat) (hj : j < g.ps.length * 2) (u : Value) (hu : u.oneCell' = true) (ps1 : List Pr) (hp : (pairsV g.ps).set j u = pairsV ps1) (hl : ps1.length = g.ps.length) :
  Top (w.setCell ⟨pb, po + j, none⟩ u) (.mk g.b g.Fp g.Fk ps1 g.ks) (some ⟨pb, po, none⟩) pc ka kc ∧ Fr g.Fp w (w.setCell ⟨pb, po + j, none⟩ u) := by
 have hsl := ht.sp.setOne j hj u hu
 rw [hp] at hsl
 obtain ⟨b', o', e, g1, _⟩ := ht.sp.at_ _ rfl (by have := ht.sp.le; omega)
 cases e
 have hin : g.Fp pb (po + j) := g1 j (by have := ht.sp.le; omega)
 have hf : Fr g.Fp w (w.setCell ⟨pb, po + j, none⟩ u) := (Fr.refl g.Fp w).setCell (.inl hin) u
 have hb : g.b < w.heap.size := block_of_cell ht.c0
 refine ⟨⟨?_, (hf.cell g.b 1 hb (ht.bp 1)).trans ht.c1, (hf.froz g.b 0 hb (ht.bp 0)).trans ht.f0, (hf.froz g.b 1 hb (ht.bp 1)).trans ht.f1, ?_, ht.sk.fr hf (fun b o h1 h2 => ht.ap b o h2 h1), ht.ap, ht.bp, ht.bk, ht.lp.later hf, ht.lk.later hf⟩, hf⟩
 ·refine (hf.cell g.b 0 hb (ht.bp 0)).trans ?_
  show _ = some (Value.slice (some ⟨pb, po, none⟩) ps1.length pc)
  rw [hl]; exact ht.c0
 ·show Sl _ 2 g.Fp _ ps1.length pc (pairsV ps1)
  rw [hl]; exact hsl
theorem Top.drew {w : World} {g : G} {pa : Option Addr} {pc : Nat} {ka : Option Addr} {kc : Nat} (h : Top w g pa pc ka kc) : Top w.drew g pa pc ka kc := h.fr (Fr.refl noCells w).drew (fun _ _ _ h => h)
def oldS (key : Str) (L : List Pr) : Str := (get key L).getD []
def PutTo (w : World) (o h : Nat) (g : G) (key v : Str) (e : Ending) (w' : World) : Prop :=
 e = .returned (.tuple #[.string ⟨(oldS key (flat h g)).toArray⟩, .bool (get key (flat h g)).isSome]) ∧ ∃ g', PutP o h g key v g' ∧ Nd w' h g' ∧ Fr (foot h g) w w' ∧ Grew w (foot h g) (foot h g')
structure Box2 (w : World) (P : Nat) (key v : Str) : Prop where
 a : w.cell? ⟨P, 0, none⟩ = some (.string ⟨key.toArray⟩)
 b : w.cell? ⟨P, 1, none⟩ = some (.string ⟨v.toArray⟩)
theorem Box2.later {w w' : World} {P : Nat} {key v : Str} (h : Box2 w P key v) (hb : Below w.heap.size w w') : Box2 w' P key v := ⟨old_cell h.a hb, old_cell h.b hb⟩
theorem Box2.made (w : World) (key v : Str) (t : TypeId) : Box2 (w.alloc (.cells #[.string ⟨key.toArray⟩, .string ⟨v.toArray⟩] t)) w.heap.size key v := ⟨by simp, by simp⟩
set_option maxHeartbeats 2000000 in
set_option maxRecDepth 100000 in
theorem put_found_walk (o h : Nat) (_ho : o ≤ 1000) (g : G) (key v u : Str) (C D : List Pr) (hp : g.ps = C ++ (key, u) :: D) (hn : g.ps.length ≤ 1000) (hk : Tr.Kids o h g) (hs : Sorted (flat h g)) (w : World) (hN : Nd w h g) :
  Calls Tryz.prog 94 #[ptrV g.b, .agg #[.string ⟨key.toArray⟩, .string ⟨v.toArray⟩], .int .i64 o] w (PutTo w o h g key v) := by
 obtain ⟨pa, pc, ka, kc, ht⟩ := hN.top
 have hsp : Sorted g.ps := pairs_sorted ((kids_iff o h g).1 hk).1 (by rw [← flat_fl]; exact hs)
 have hC : Bel C key := by rw [hp] at hsp; exact hsp.bel
 have hpl : pl key g.ps = C.length := by rw [hp, pl_left hC, pl, if_neg (by rw [Ky.less_self]; decide)]; omega
 have hpi : g.ps[C.length]? = some (key, u) := by rw [hp]; simp
 have hat : hasAt key g.ps = true := by unfold hasAt; rw [hpl, hpi]; simp
 obtain ⟨pb, po, rfl, c1, c2, _, c4, c5, c6⟩ := ht.pair hpi
 have hlt : C.length < g.ps.length := (List.getElem?_eq_some_iff.1 hpi).1
 simp only at c1 c2
 have HF := Lib.hid (fun W hW => find_any g key hsp (by omega) W hW)
 rw [hpl, hat] at HF
 have hfin := put_found (g' := .mk g.b g.Fp g.Fk (C ++ (key, v) :: D) g.ks) hk hs hp rfl rfl rfl
 have HR : Hid (oldS key (flat h g) = u ∧ (get key (flat h g)).isSome = true) := Lib.hid ⟨by unfold oldS; rw [hfin.2]; rfl, by rw [hfin.2]; rfl⟩
 have HX := Lib.hid (Box2.made w key v 168)
 have HT := Lib.hid ht
 have HN := Lib.hid hN
 have HP := Lib.hid (And.intro hfin.1 hp)
 have h0 := ht.c0
 have hgb : g.b < w.heap.size := block_of_cell h0
 obtain ⟨n, hn1⟩ : ∃ n, g.ps.length = n := ⟨_, rfl⟩
 obtain ⟨i, hi⟩ : ∃ i, C.length = i := ⟨_, rfl⟩
 rw [hn1] at h0 hn hlt
 rw [hi] at HF c1 c2 c4 hlt
 have hi0 : (0 : Int) ≤ (i : Int) := by omega
 have hi1 : (i : Int) < (n : Int) := by omega
 have HL := Lib.hid (And.intro hn1 hi)
 have hpb : pb < w.heap.size := block_of_cell c1
 have hne1 : g.b ≠ pb := fun e => ht.bp _ (by rw [e]; exact c5)
 have hne2 : w.heap.size ≠ pb := by omega
 clear hN ht hk hs hp hsp hC hpl hpi hat hfin hn1 hi c5 c6 c1
 go_enter Tryz.func94, Tryz.ntmps94
 go_wp2_with (go_at_call 124; refine (HF.out _ ⟨_, _, _, _, HT.out.later (al1 w (.cells #[.string ⟨key.toArray⟩, .string ⟨v.toArray⟩] 168))⟩).mono ?_; rintro e W ⟨rfl, hb⟩; have H1 := Lib.hid (And.intro ((al1 w (.cells #[.string ⟨key.toArray⟩, .string ⟨v.toArray⟩] 168)).trans (hb.mono (by simp))) (HX.out.later hb)); have x0 := H1.out.2.b; have x1 := old_cell h0 H1.out.1; have x2 := old_cell c2 H1.out.1; have x3 := (H1.out.1.frozen (p := ⟨pb, po + i * 2 + 1, none⟩) hpb).trans c4; clear hb)
 go_region_held3 (fun V => V.cell? ⟨g.b, 0, none⟩ = some (.slice (some ⟨pb, po, none⟩) n pc) ∧ V.cell? ⟨w.heap.size, 1, none⟩ = some (.string ⟨v.toArray⟩)) (first | exact ⟨x1, x0⟩ | exact ⟨keepc x1 hne1, keepc x0 hne2⟩) (fail)
 go_wp2
 go_ret2
 show PutTo w o h g key v (.returned (.tuple #[.string ⟨u.toArray⟩, .bool true])) (W.setCell ⟨pb, po + i * 2 + 1, none⟩ (.string ⟨v.toArray⟩)).drew
 obtain ⟨t1, t2⟩ := (HT.out.later H1.out.1).setOne (i * 2 + 1) (by rw [HL.out.1]; omega) (.string ⟨v.toArray⟩) rfl (C ++ (key, v) :: D) (by rw [HP.out.2, ← HL.out.2]; exact pairsV_set C D key u v) (by rw [HP.out.2]; simp)
 rw [← Nat.add_assoc] at t1 t2
 obtain ⟨n1, n2, n3⟩ := St.close_ (((St.begin_ HN.out).later H1.out.1).one (t' := .mk g.b g.Fp g.Fk (C ++ (key, v) :: D) g.ks) t2.drew (fun _ _ h => .inl (.inr (.inl h))) ⟨_, _, _, _, t1.drew⟩ (fun _ _ h => .inl h))
 exact ⟨by rw [HR.out.1, HR.out.2], _, HP.out.1, n1, n2, n3⟩
end Go.Proofs.YtecnijnmgdfdhaaGreat

namespace Go.Proofs.YtecnijnmgdfdhaaGreat
open Go.RowKit Tr
open Ky (less)

theorem at_no {key : Str} {C D : List Pr} (hC : Bel C key) (hD : Abv D key) : pl key (C ++ D) = C.length ∧ hasAt key (C ++ D) = false := by
 have h1 : pl key (C ++ D) = C.length := by
  rw [pl_left hC]
  cases D with
  | nil => rfl
  | cons d D => rw [pl, if_neg hD.head.1]; omega
 refine ⟨h1, ?_⟩
 unfold hasAt
 rw [h1]
 cases D with
 | nil => simp
 | cons d D =>
  have : (C ++ d :: D)[C.length]? = some d := by simp
  rw [this]
  simpa using hD.head.2
set_option maxHeartbeats 4000000 in
set_option maxRecDepth 100000 in
theorem put_leaf_walk (o : Nat) (_ho : o ≤ 1000) (g : G) (key v : Str) (C D : List Pr) (hp : g.ps = C ++ D) (hC : Bel C key) (hD : Abv D key) (hn : g.ps.length ≤ 1000) (hk : Tr.Kids o 0 g) (hs : Sorted (flat 0 g)) (w : World) (hN : Nd w 0 g) :
  Calls Tryz.prog 94 #[ptrV g.b, .agg #[.string ⟨key.toArray⟩, .string ⟨v.toArray⟩], .int .i64 o] w (PutTo w o 0 g key v) := by
 obtain ⟨pa, pc, ka, kc, ht⟩ := hN.top
 have hsp : Sorted g.ps := hs
 obtain ⟨hpl, hat⟩ := at_no hC hD
 rw [← hp] at hpl hat
 have HF := Lib.hid (fun W hW => find_any g key hsp (by omega) W hW)
 rw [hpl, hat] at HF
 have HR : Hid (oldS key (flat 0 g) = [] ∧ (get key (flat 0 g)).isSome = false) := Lib.hid (by
  have hfin := put_leaf_ (v := v) (g' := .mk g.b g.Fp g.Fk (C ++ (key, v) :: D) g.ks) hk hC hD hp rfl rfl rfl
  exact ⟨by unfold oldS; rw [hfin.2]; rfl, by rw [hfin.2]; rfl⟩)
 have HX := Lib.hid (Box2.made w key v 168)
 have HT := Lib.hid ht
 have HN := Lib.hid hN
 have HQ := Lib.hid (And.intro hp (And.intro hk (And.intro hC hD)))
 have h0 := ht.c0
 have h1 := ht.c1
 rw [show g.ks.length = 0 by rw [show g.ks = [] from hk]; rfl] at h1
 have hgb : g.b < w.heap.size := block_of_cell h0
 obtain ⟨n, hn1⟩ : ∃ n, g.ps.length = n := ⟨_, rfl⟩
 obtain ⟨i, hi⟩ : ∃ i, C.length = i := ⟨_, rfl⟩
 have hin : i ≤ n := by rw [← hi, ← hn1, hp]; simp
 rw [hn1] at h0 hn
 rw [hi] at HF
 have HL := Lib.hid (And.intro hn1 hi)
 have HLF := Lib.hid (fun W hc => leaf_raw g.b ka 0 kc true rfl (by omega) W hc)
 clear hN ht hk hs hp hsp hC hD hpl hat hn1 hi
 go_enter Tryz.func94, Tryz.ntmps94
 go_wp2_with (first
  | (go_at_call 124; refine (HF.out _ ⟨_, _, _, _, HT.out.later (al1 w (.cells #[.string ⟨key.toArray⟩, .string ⟨v.toArray⟩] 168))⟩).mono ?_; rintro e W ⟨rfl, hb⟩; have H1 := Lib.hid (And.intro ((al1 w (.cells #[.string ⟨key.toArray⟩, .string ⟨v.toArray⟩] 168)).trans (hb.mono (by simp))) (HX.out.later hb)); have x0 := H1.out.2.a; have x1 := H1.out.2.b; have x2 := old_cell h0 H1.out.1; have x3 := old_cell h1 H1.out.1; clear hb)
  | (go_at_call 100; refine (HLF.out _ x3).mono ?_; rintro e W2 ⟨rfl, rfl⟩))
 obtain ⟨P, hP⟩ : ∃ P, w.heap.size = P := ⟨_, rfl⟩
 have HPP := Lib.hid hP
 rw [hP] at x0 x1
 have hPW : P < W.heap.size := block_of_cell x0
 have hgbW : g.b < W.heap.size := block_of_cell x2
 have HI : Hid (Calls Tryz.prog 126 #[.slice pa n pc, .int .i64 i, .slice (some ⟨W.heap.size, 0, none⟩) 1 1] ((W.alloc (.cells #[.string ⟨key.toArray⟩, .string ⟨v.toArray⟩] 168)).drew) fun e V => ∃ a1 c1, e = .returned (.slice a1 (n + 1) c1) ∧ V.cell? ⟨g.b, 0, none⟩ = some (.slice pa n pc) ∧ V.frozen? ⟨g.b, 0, none⟩ = false ∧ V.cell? ⟨P, 0, none⟩ = some (.string ⟨key.toArray⟩) ∧ V.cell? ⟨P, 1, none⟩ = some (.string ⟨v.toArray⟩) ∧ Hid (PutTo w o 0 g key v (.returned (.tuple #[.string ⟨#[]⟩, .bool false])) (V.setCell ⟨g.b, 0, none⟩ (.slice a1 (n + 1) c1)))) := Lib.hid (by
  have fA := alE W (.cells #[.string ⟨key.toArray⟩, .string ⟨v.toArray⟩] 168)
  have HT1 := HT.out.later H1.out.1
  have hsp := HT1.sp
  rw [HL.out.1] at hsp
  refine (insert_pair g.Fp pa n pc i (pairsV g.ps) W.heap.size [.string ⟨key.toArray⟩, .string ⟨v.toArray⟩] rfl (by omega) hin _ (hsp.fr (Fr.ofBelow fA noCells) (fun _ _ _ h => h)) (HT1.lp.later (Fr.ofBelow fA noCells)) ((Arg.made W [.string ⟨key.toArray⟩, .string ⟨v.toArray⟩] 168 (by intro u hu; simp only [List.mem_cons, List.not_mem_nil, or_false] at hu; rcases hu with rfl | rfl <;> rfl)).block rfl) (fun x hx => Nat.lt_irrefl _ (HT1.lp _ _ hx))).mono ?_
  rintro e V ⟨a', c', F', rfl, hsl, hfr, hgr, hli⟩
  have fW : Fr g.Fp W V := (Fr.ofBelow fA _).trans hfr (fun _ _ h => .inl h)
  have nM : ∀ x, ¬ g.Fp P x := fun x hx => by have := HT.out.lp _ _ hx; omega
  have hpv : (pairsV g.ps).take (i * 2) ++ ([.string ⟨key.toArray⟩, .string ⟨v.toArray⟩] ++ (pairsV g.ps).drop (i * 2)) = pairsV (C ++ (key, v) :: D) := by rw [HQ.out.1, ← HL.out.2]; exact ins_pairs C D (key, v)
  rw [hpv] at hsl
  have hlen : (C ++ (key, v) :: D).length = n + 1 := by rw [← HL.out.1, HQ.out.1]; simp; omega
  have hfin := put_leaf_ (v := v) (g' := .mk g.b F' g.Fk (C ++ (key, v) :: D) g.ks) HQ.out.2.1 HQ.out.2.2.1 HQ.out.2.2.2 HQ.out.1 rfl rfl rfl
  obtain ⟨s1, _⟩ := insP ((St.begin_ HN.out).later H1.out.1) HT1 fA hlen hsl hfr hgr hli
  obtain ⟨n1, n2, n3⟩ := St.close_ s1
  exact ⟨a', c', rfl, (fW.cell g.b 0 hgbW (HT1.bp 0)).trans x2, (fW.froz g.b 0 hgbW (HT1.bp 0)).trans HT1.f0, (fW.cell P 0 hPW (nM 0)).trans x0, (fW.cell P 1 hPW (nM 1)).trans x1, Lib.hid ⟨by rw [HR.out.1, HR.out.2], _, hfin.1, n1, n2, n3⟩⟩)
 clear hP
 rw [HPP.out]
 refine wp_region_till 11 (fun V => (V.cell? ⟨P, 0, none⟩ = some (.string ⟨key.toArray⟩) ∧ V.cell? ⟨P, 1, none⟩ = some (.string ⟨v.toArray⟩)) ∧ V.cell? ⟨g.b, 0, none⟩ = some (.slice pa n pc)) (by kernel_rfl) (⟨⟨x0, x1⟩, x2⟩) (fun hH => ?_)
 refine zzU (i := 0) (v := ?v0) rfl (by kernel_rfl) (fun _ _ _ h => h) rfl ?h0 hH ?r0
 case h0 => (intro W h; (try dsimp only at h); go_simp; all_goals (with_reducible rfl))
 try simp only [zzA, zzC, Act.put, zzD, zzE, zzF]
 refine zzU (i := 1) (v := ?v1) rfl (by kernel_rfl) (fun _ _ _ h => h) rfl ?h1 hH ?r1
 case h1 => (intro W h; (try dsimp only at h); go_simp; all_goals (with_reducible rfl))
 try simp only [zzA, zzB, zzC, Act.put, zzD, zzE, zzF]
 refine zzU (i := 2) (v := ?v2) rfl (by kernel_rfl) (fun _ _ _ h => h) rfl ?h2 hH ?r2
 case h2 => (intro W h; (try dsimp only at h); go_simp; all_goals (with_reducible rfl))
 try simp only [zzA, zzB, zzC, Act.put, zzD, zzE, zzF]
 refine zzU (i := 3) (v := ?v3) rfl (by kernel_rfl) (fun _ _ _ h => h) rfl ?h3 hH ?r3
 case h3 => (intro W h; (try dsimp only at h); go_simp; all_goals (with_reducible rfl))
 try simp only [zzA, zzB, zzC, Act.put, zzD, zzE, zzF]
 refine zzU (i := 4) (v := ?v4) rfl (by kernel_rfl) (fun _ _ _ h => h) rfl ?h4 hH ?r4
 case h4 => (intro W h; (try dsimp only at h); go_simp; all_goals (with_reducible rfl))
 try simp only [zzA, zzB, zzC, Act.put, zzD, zzE, zzF]
 refine zzU (i := 5) (v := ?v5) rfl (by kernel_rfl) (fun _ _ _ h => h) rfl ?h5 hH ?r5
 case h5 => (intro W h; (try dsimp only at h); go_simp; all_goals (with_reducible rfl))
 try simp only [zzA, zzB, zzC, Act.put, zzD, zzE, zzF]
 refine zzU (i := 6) (v := ?v6) rfl (by kernel_rfl) (fun _ _ _ h => h) rfl ?h6 hH ?r6
 case h6 => (intro W h; (try dsimp only at h); go_simp; all_goals (with_reducible rfl))
 try simp only [zzA, zzB, zzC, Act.put, zzD, zzE, zzF]
 refine wpTill_one (i := 7) (by kernel_rfl) rfl rfl (fun K hK => ?_)
 go_simp
 have hH2 := And.intro (And.intro (old_cell hH.1.1 (alD W (.cells #[.string ⟨key.toArray⟩, .string ⟨v.toArray⟩] 168))) (old_cell hH.1.2 (alD W (.cells #[.string ⟨key.toArray⟩, .string ⟨v.toArray⟩] 168)))) (old_cell hH.2 (alD W (.cells #[.string ⟨key.toArray⟩, .string ⟨v.toArray⟩] 168)))
 refine hK.out _ _ (fun _ => hH2) ?_
 clear hK K hH; have hH := hH2; clear hH2
 try simp only [zzA, zzB, zzC, Act.put, zzD, zzE, zzF]
 refine wpTill_one (i := 8) (by kernel_rfl) rfl rfl (fun K hK => ?_)
 go_simp
 (go_at_call 126; refine HI.out.mono ?_; rintro e V ⟨a1, c1, rfl, v0, v1, v2, v3, HE⟩)
 have hH2 := And.intro (And.intro v2 v3) v0
 refine hK.out _ _ (fun _ => hH2) ?_
 clear hK K hH; have hH := hH2; clear hH2
 try simp only [zzA, zzB, zzC, Act.put, zzD, zzE, zzF]
 refine wpTill_one (i := 9) (by kernel_rfl) rfl rfl (fun K hK => ?_)
 go_simp
 refine hK.out _ _ (fun _ => hH) ?_
 clear hK K
 try simp only [zzA, zzB, zzC, Act.put, zzD, zzE, zzF]
 refine wpTill_one (i := 10) (by kernel_rfl) rfl rfl (fun K hK => ?_)
 go_simp
 refine hK.out _ _ (fun _ => hH) ?_
 clear hK K
 try simp only [zzA, zzB, zzC, Act.put, zzD, zzE, zzF]
 refine wpTill_one (i := 11) (by kernel_rfl) rfl rfl (fun K hK => ?_)
 go_simp
 refine hK.out _ _ (fun h => absurd rfl h) ?_
 clear hK K
 try simp only [zzA, zzB, zzC, Act.put, zzD, zzE, zzF]
 refine wpTill_done (by kernel_rfl) ?_ _
 go_wp2
 go_ret2
 exact HE.out
end Go.Proofs.YtecnijnmgdfdhaaGreat

namespace Go.Proofs.YtecnijnmgdfdhaaGreat
open Go.RowKit Tr

theorem St.subTo {w0 : World} {F : Foot} {w w' : World} {T : List G} {U : List (Nat × G)} {S : Foot} {h : Nat} {k k' : G} (hs : St w0 F w T ((h, k) :: U)) (hf : Fr S w w') (hS : ∀ b o, S b o → foot h k b o ∨ w.heap.size ≤ b) (hn : Nd w' h k') (hi : Grew w (foot h k) (foot h k')) : St w0 F w' T ((h, k') :: U) := by
 have hp : ∀ x : G, (T.map topF ++ ((h, x) :: U).map uF).Perm (foot h x :: (T.map topF ++ U.map uF)) := fun x => by rw [List.map_cons]; exact List.perm_middle
 obtain ⟨a1, a2⟩ := List.pairwise_cons.1 (((hp k).pairwise_iff Apart.symm').1 hs.sep)
 have hlie := hs.lies
 have hsz := hs.fr.size
 have old : ∀ f ∈ T.map topF ++ U.map uF, ∀ b o, f b o → ¬ (foot h k b o ∨ w.heap.size ≤ b) := fun f hf1 b o hb h1 => by
  rcases h1 with h1 | h1
  ·exact a1 f hf1 b o h1 hb
  ·have := hlie f ((hp k).mem_iff.2 (List.mem_cons_of_mem _ hf1)) b o hb
   omega
 have hin : ∀ b o, (foot h k b o ∨ w.heap.size ≤ b) → F b o ∨ w0.heap.size ≤ b := fun b o h1 => by
  rcases h1 with h1 | h1
  ·exact hs.ins (foot h k) ((hp k).mem_iff.2 (List.mem_cons_self ..)) b o h1
  ·exact .inr (by omega)
 refine ⟨fun t htm => ?_, fun u hu => ?_, ((hp k').pairwise_iff Apart.symm').2 (List.pairwise_cons.2 ⟨fun f hf1 b o hb hb' => old f hf1 b o hb' (hi b o hb), a2⟩), hs.fr.trans hf (fun b o h1 => hin b o (hS b o h1)), fun f hf1 b o hb => ?_⟩
 ·obtain ⟨pa, pc, ka, kc, h1⟩ := hs.top t htm
  exact ⟨pa, pc, ka, kc, h1.fr hf (fun b o hb hb' => old (topF t) (List.mem_append_left _ (List.mem_map.2 ⟨t, htm, rfl⟩)) b o hb (hS b o hb'))⟩
 ·rcases List.mem_cons.1 hu with rfl | hu
  ·exact hn
  ·exact (hs.sub u (by simp [hu])).fr hf (fun b o hb hb' => old (uF u) (List.mem_append_right _ (List.mem_map.2 ⟨u, hu, rfl⟩)) b o hb (hS b o hb'))
 ·rcases List.mem_cons.1 ((hp k').mem_iff.1 hf1) with rfl | hf1
  ·exact hin b o (hi b o hb)
  ·exact hs.ins f ((hp k).mem_iff.2 (List.mem_cons_of_mem _ hf1)) b o hb
theorem Top.kids_eq {w : World} {g : G} {pa : Option Addr} {pc : Nat} {ka : Option Addr} {kc : Nat} (h : Top w g pa pc ka kc) {ks : List G} (e : kidsV ks = kidsV g.ks) : Top w (.mk g.b g.Fp g.Fk g.ps ks) pa pc ka kc := by
 have hl : ks.length = g.ks.length := by rw [← kidsV_len ks, e, kidsV_len]
 refine ⟨h.c0, ?_, h.f0, h.f1, h.sp, ?_, h.ap, h.bp, h.bk, h.lp, h.lk⟩
 ·show w.cell? ⟨g.b, 1, none⟩ = some (.slice ka ks.length kc)
  rw [hl]; exact h.c1
 ·show Sl w 1 g.Fk ka ks.length kc (kidsV ks)
  rw [hl, e]; exact h.sk
theorem Nd.kidTo {w w' : World} {h : Nat} {g k k' : G} {A B : List G} (hn : Nd w (h + 1) g) (hks : g.ks = A ++ k :: B) (hf : Fr (foot h k) w w') (hk : Nd w' h k') (hb : k'.b = k.b) (hi : Grew w (foot h k) (foot h k')) :
  Nd w' (h + 1) (.mk g.b g.Fp g.Fk g.ps (A ++ k' :: B)) ∧ Fr (foot (h + 1) g) w w' ∧ Grew w (foot (h + 1) g) (foot (h + 1) (.mk g.b g.Fp g.Fk g.ps (A ++ k' :: B))) := by
 have h1 := St.begin_ hn
 have hp : ∀ x : G, ((A ++ x :: B).map fun k => (h, k)).Perm ((h, x) :: (A ++ B).map fun k => (h, k)) := fun x => by
  rw [List.map_append, List.map_cons, List.map_append]; exact List.perm_middle
 have h2 := (h1.perm (List.Perm.refl _) (show (subsOf (h + 1) g.ks).Perm _ from by rw [hks]; exact hp k)).subTo hf (fun _ _ h => .inl h) hk hi
 have e : kidsV (A ++ k' :: B) = kidsV g.ks := by rw [hks]; simp [kidsV, hb]
 obtain ⟨pa, pc, ka, kc, ht⟩ := h2.top g (by simp)
 have h3 := h2.one (t' := .mk g.b g.Fp g.Fk g.ps (A ++ k' :: B)) (S := noCells) (Fr.refl _ _) (fun _ _ h => h.elim) ⟨_, _, _, _, ht.kids_eq e⟩ (fun _ _ h => .inl h)
 exact St.close_ (h3.perm (List.Perm.refl _) (hp k').symm)
theorem Nd.kidOf {w : World} {h : Nat} {g k : G} {A B : List G} (hn : Nd w (h + 1) g) (hks : g.ks = A ++ k :: B) : Nd w h k ∧ ∀ b o, foot h k b o → foot (h + 1) g b o := ⟨(hn.2.1 k (by rw [hks]; simp)).1, kid_foot (by rw [hks]; simp)⟩
theorem topF_kid {w : World} {h : Nat} {g k : G} (hn : Nd w (h + 1) g) (hk : k ∈ g.ks) : Apart (topF g) (foot h k) := (hn.2.1 k hk).2
end Go.Proofs.YtecnijnmgdfdhaaGreat

namespace Go.Proofs.YtecnijnmgdfdhaaGreat
open Go.RowKit Tr
open Ky (less)

theorem split_any (h : Nat) (g k : G) (A B : List G) (C D X Y : List Pr) (m : Pr) (o : Nat) (ho : X.length + 1 = o) (hX : 0 < X.length) (hY : 0 < Y.length) (hl1 : k.ps.length ≤ 1000) (hl2 : g.ps.length ≤ 1000) (hl3 : g.ks.length ≤ 1000)
  (hps : g.ps = C ++ D) (hks : g.ks = A ++ k :: B) (ha : A.length = C.length) (hkp : k.ps = X ++ m :: Y) (KX KY : List G) (hkk : k.ks = KX ++ KY) (hax : Arity h X.length KX.length) (hay : Arity h Y.length KY.length) (w : World) (hn : Nd w (h + 1) g) :
  Calls Tryz.prog 95 #[ptrV g.b, .int .i64 C.length, .int .i64 o] w (SplitTo w h g A B C D X Y m KX KY) := by
 cases h with
 | zero =>
  obtain rfl : KX = [] := List.eq_nil_of_length_eq_zero hax
  obtain rfl : KY = [] := List.eq_nil_of_length_eq_zero hay
  exact split_leaf 0 g k A B C D X Y m o ho hX hY hl1 hl2 hl3 hps hks ha hkp hkk w hn
 | succ h => exact split_node (h + 1) g k A B C D X Y m o ho hX hY hl1 hl2 hl3 hps hks ha hkp KX KY hkk (by rw [← ho]; exact hax) hay w hn
theorem cut3 {α : Type} (L : List α) (o : Nat) (ho : 1 ≤ o) (hl : o ≤ L.length) : ∃ X m Y, L = X ++ m :: Y ∧ X.length + 1 = o ∧ Y.length + o = L.length := by
 obtain ⟨m, hm⟩ : ∃ m, L[o - 1]? = some m := ⟨_, List.getElem?_eq_getElem (by omega)⟩
 refine ⟨L.take (o - 1), m, L.drop o, ?_, by rw [List.length_take]; omega, by rw [List.length_drop]; omega⟩
 have h1 : L.drop (o - 1) = m :: L.drop o := by
  rw [List.drop_eq_getElem_cons (by omega), show o - 1 + 1 = o by omega]
  congr 1
  exact (Option.some.inj ((List.getElem?_eq_getElem (by omega)).symm.trans hm))
 rw [← h1, List.take_append_drop]
set_option maxHeartbeats 4000000 in
set_option maxRecDepth 100000 in
theorem put_inner_walk (o h : Nat) (ho2 : 2 ≤ o) (ho : o ≤ 100) (g k : G) (key v : Str) (A B : List G) (C D : List Pr) (hp : g.ps = C ++ D) (hks : g.ks = A ++ k :: B) (ha : A.length = C.length) (hC : Bel C key) (hD : Abv D key) (hn : g.ps.length ≤ 500) (hk : Tr.Kids o (h + 1) g) (hs : Sorted (flat (h + 1) g))
  (IH : ∀ (k : G) (w : World), Tr.Kids o h k → Sorted (flat h k) → k.ps.length + 1 ≤ 2 * o → Nd w h k → Calls Tryz.prog 94 #[ptrV k.b, .agg #[.string ⟨key.toArray⟩, .string ⟨v.toArray⟩], .int .i64 o] w (PutTo w o h k key v))
  (w : World) (hN : Nd w (h + 1) g) :
  Calls Tryz.prog 94 #[ptrV g.b, .agg #[.string ⟨key.toArray⟩, .string ⟨v.toArray⟩], .int .i64 o] w (PutTo w o (h + 1) g key v) := by
 obtain ⟨pa, pc, ka, kc, ht⟩ := hN.top
 have hsp : Sorted g.ps := pairs_sorted ((kids_iff o (h + 1) g).1 hk).1 (by rw [← flat_fl]; exact hs)
 have har : g.ks.length = g.ps.length + 1 := ((kids_iff o (h + 1) g).1 hk).1
 obtain ⟨hpl, hat⟩ := at_no hC hD
 rw [← hp] at hpl hat
 have HF := Lib.hid (fun W hW => find_any g key hsp (by omega) W hW)
 rw [hpl, hat] at HF
 obtain ⟨hget, hks1, hks2, hks3, hks4⟩ := get_kid_ hk hs hC hD hp hks ha
 have hkm : g.ks[C.length]? = some k := by rw [hks, ← ha]; simp
 obtain ⟨kb, ko, rfl, kk1, kk2⟩ := ht.kid hkm
 have h0 := ht.c0
 have h1 := ht.c1
 obtain ⟨old, hold⟩ : ∃ x, oldS key (flat (h + 1) g) = x := ⟨_, rfl⟩
 obtain ⟨was, hwas⟩ : ∃ x, (get key (flat (h + 1) g)).isSome = x := ⟨_, rfl⟩
 have HR := Lib.hid (And.intro hold hwas)
 have HX := Lib.hid (Box2.made w key v 168)
 have HT := Lib.hid ht
 have HN := Lib.hid hN
 have HQ := Lib.hid (And.intro hp (And.intro hks (And.intro ha (And.intro hk (And.intro hs (And.intro hC hD))))))
 have hgb : g.b < w.heap.size := block_of_cell h0
 have hkbb : kb < w.heap.size := block_of_cell kk1
 obtain ⟨n, hn1⟩ : ∃ n, g.ps.length = n := ⟨_, rfl⟩
 obtain ⟨i, hi⟩ : ∃ i, C.length = i := ⟨_, rfl⟩
 have hin : i ≤ n := by rw [← hi, ← hn1, hp]; simp
 rw [har, hn1] at h1
 rw [hn1] at h0 hn har
 rw [hi] at HF kk1 kk2
 have HL := Lib.hid (And.intro hn1 (And.intro hi har))
 have HLF := Lib.hid (fun W hc => leaf_raw g.b (some ⟨kb, ko, none⟩) (n + 1) kc false rfl (by omega) W hc)
 have HIH : Hid (∀ (W : World), Below w.heap.size w W → Box2 W w.heap.size key v → Calls Tryz.prog 94 #[ptrV k.b, .agg #[.string ⟨key.toArray⟩, .string ⟨v.toArray⟩], .int .i64 o] W fun e V => e = .returned (.tuple #[.string ⟨old.toArray⟩, .bool was]) ∧ ∃ k' : G, Hid (PutP o h k key v k') ∧ (V.cell? ⟨g.b, 1, none⟩ = some (.slice (some ⟨kb, ko, none⟩) (n + 1) kc) ∧ V.cell? ⟨kb, ko + i, none⟩ = some (ptrV k.b)) ∧ (V.cell? ⟨w.heap.size, 0, none⟩ = some (.string ⟨key.toArray⟩) ∧ V.cell? ⟨w.heap.size, 1, none⟩ = some (.string ⟨v.toArray⟩)) ∧ (∃ qa qc, V.cell? ⟨k.b, 0, none⟩ = some (.slice qa k'.ps.length qc)) ∧ Hid (Nd V (h + 1) (.mk g.b g.Fp g.Fk g.ps (A ++ k' :: B)) ∧ Fr (foot (h + 1) g) w V ∧ Grew w (foot (h + 1) g) (foot (h + 1) (.mk g.b g.Fp g.Fk g.ps (A ++ k' :: B))))) := Lib.hid (fun W hb hX => by
  have hNW := hN.later hb
  have hkid := hNW.kidOf hks
  refine (IH k W hks2 hks1 hks4 hkid.1).mono ?_
  rintro e V ⟨rfl, k', hP, hNk, hfr, hgr⟩
  obtain ⟨n1, n2, n3⟩ := hNW.kidTo hks hfr hNk hP.b hgr
  have hap := topF_kid hNW (show k ∈ g.ks by rw [hks]; simp)
  have hTW := ht.later hb
  have hgw : g.b < W.heap.size := block_of_cell hTW.c0
  obtain ⟨qa, qc, _, _, hkt⟩ := hNk.top
  have hkk1 : W.cell? ⟨kb, ko + i, none⟩ = some (ptrV k.b) := old_cell kk1 hb
  have hkF : g.Fk kb (ko + i) := by
   obtain ⟨b', o', e, g1, _⟩ := ht.sk.at_ _ rfl (by have := ht.sk.le; omega)
   cases e
   exact g1 i (by have := ht.sk.le; omega)
  have hPk : ∀ x, ¬ foot h k w.heap.size x := fun x hx => by have := (hN.kidOf hks).1.lies _ _ hx; omega
  refine ⟨by rw [← hold, ← hwas]; unfold oldS; rw [hget], k', Lib.hid hP, ⟨?_, ?_⟩, ⟨?_, ?_⟩, ⟨qa, qc, by rw [← hP.b]; exact hkt.c0⟩, Lib.hid ⟨n1, (Fr.ofBelow hb _).trans n2 (fun _ _ h => .inl h), fun b x hx => ?_⟩⟩
  ·exact (hfr.cell g.b 1 hgw (hap g.b 1 (.inl rfl))).trans (old_cell h1 hb)
  ·exact (hfr.cell kb _ (block_of_cell hkk1) (hap kb _ (.inr (.inr hkF)))).trans hkk1
  ·exact (hfr.cell _ 0 (block_of_cell hX.a) (hPk 0)).trans hX.a
  ·exact (hfr.cell _ 1 (block_of_cell hX.b) (hPk 1)).trans hX.b
  ·rcases n3 b x hx with h | h
   ·exact .inl h
   ·exact .inr (Nat.le_trans hb.size h))
 have hi0 : (0 : Int) ≤ (i : Int) := by omega
 have hi1 : (i : Int) < (n : Int) + 1 := by omega
 have hi2 : (i : Int) < ((n + 1 : Nat) : Int) := by omega
 have ho3 : (o : Int) ≤ 100 := by omega
 have ho4 : (2 : Int) ≤ (o : Int) := by omega
 clear hN ht hk hs hp hsp hC hD hpl hat hn1 hi hks ha hget hks1 hks2 hks3 hks4 hkm IH hold hwas har
 go_enter Tryz.func94, Tryz.ntmps94
 go_wp2_with (first
  | (go_at_call 124; refine (HF.out _ ⟨_, _, _, _, HT.out.later (al1 w (.cells #[.string ⟨key.toArray⟩, .string ⟨v.toArray⟩] 168))⟩).mono ?_; rintro e W ⟨rfl, hb⟩; have H1 := Lib.hid (And.intro ((al1 w (.cells #[.string ⟨key.toArray⟩, .string ⟨v.toArray⟩] 168)).trans (hb.mono (by simp))) (HX.out.later hb)); have x0 := H1.out.2.a; have x1 := H1.out.2.b; have x2 := old_cell kk1 H1.out.1; have x3 := old_cell h1 H1.out.1; clear hb)
  | (go_at_call 100; refine (HLF.out _ x3).mono ?_; rintro e W2 ⟨rfl, rfl⟩))
 go_region_held3 (fun V => (V.cell? ⟨w.heap.size, 0, none⟩ = some (.string ⟨key.toArray⟩) ∧ V.cell? ⟨w.heap.size, 1, none⟩ = some (.string ⟨v.toArray⟩)) ∧ V.cell? ⟨g.b, 1, none⟩ = some (.slice (some ⟨kb, ko, none⟩) (n + 1) kc) ∧ V.cell? ⟨kb, ko + i, none⟩ = some (ptrV k.b))
  (first | exact ⟨⟨x0, x1⟩, x3, x2⟩ | exact ⟨⟨y2, y3⟩, y0, y1⟩)
  ((go_at_call 94; refine (HIH.out _ H1.out.1.drew (H1.out.2.later (below_drewN _ 1))).mono ?_; rintro e V ⟨rfl, k', HP, ⟨y0, y1⟩, ⟨y2, y3⟩, ⟨qa, qc, y4⟩, HE⟩))
 rename_i hHeld
 clear hHeld
 obtain ⟨s, hs⟩ : ∃ s, k'.ps.length = s := ⟨_, rfl⟩
 rw [hs] at y4
 have HS := Lib.hid hs
 have hsn : (s : Int) ≤ 200 := by
  have := HP.out.hi
  obtain ⟨_, _, _, _, q5⟩ := get_kid_ HQ.out.2.2.2.1 HQ.out.2.2.2.2.1 HQ.out.2.2.2.2.2.1 HQ.out.2.2.2.2.2.2 HQ.out.1 HQ.out.2.1 HQ.out.2.2.1
  omega
 by_cases hsz : s + 1 ≤ 2 * o
 ·have hq : (s : Int) ≤ 2 * (o : Int) - 1 := by omega
  clear hs
  go_wp2
  go_ret2
  refine ⟨?_, .mk g.b g.Fp g.Fk g.ps (A ++ k' :: B), put_kid_ HQ.out.2.2.2.1 HQ.out.2.2.2.2.1 HQ.out.2.2.2.2.2.1 HQ.out.2.2.2.2.2.2 HQ.out.1 HQ.out.2.1 HQ.out.2.2.1 HP.out (by rw [HS.out]; exact hsz) rfl rfl rfl, HE.out.1, HE.out.2.1, HE.out.2.2⟩
  rw [HR.out.1, HR.out.2]
  rfl
 ·have hq : 2 * (o : Int) - 1 < (s : Int) := by omega
  have hlk : k'.ps.length = 2 * o := by
   have := HP.out.hi
   obtain ⟨_, _, _, _, q5⟩ := get_kid_ HQ.out.2.2.2.1 HQ.out.2.2.2.2.1 HQ.out.2.2.2.2.2.1 HQ.out.2.2.2.2.2.2 HQ.out.1 HQ.out.2.1 HQ.out.2.2.1
   omega
  obtain ⟨X, m, Y, e1, e2, e3⟩ := cut3 k'.ps o (by omega) (by omega)
  obtain ⟨KX, KY, f1, f2, f3⟩ := kids_split HP.out.kids e1 e2
  have HSP := Lib.hid (split_any h (.mk g.b g.Fp g.Fk g.ps (A ++ k' :: B)) k' A B C D X Y m o e2 (by omega) (by omega) (by omega) (by show g.ps.length ≤ 1000; rw [HL.out.1]; omega) (by show (A ++ k' :: B).length ≤ 1000; have := HL.out.2.2; rw [HQ.out.2.1] at this; simp at this ⊢; omega) HQ.out.1 rfl HQ.out.2.2.1 e1 KX KY f1 f2 f3 V HE.out.1)
  rw [HL.out.2.1] at HSP
  have HXY := Lib.hid (And.intro e1 (And.intro e2 (And.intro f1 (And.intro f2 (And.intro f3 (show Y.length + 1 ≤ 2 * o ∧ o ≤ Y.length + 1 by omega))))))
  clear hs hlk e1 e2 e3 f1 f2 f3
  go_wp2_with (go_at_call 95; refine HSP.out.mono ?_; rintro e V2 ⟨rfl, l, r, g2, z1, z2, z3, z4, z5, z6, z7, z8, z9, z10⟩; have HZ := Lib.hid (And.intro z1 (And.intro z2 (And.intro z3 (And.intro z4 (And.intro z5 (And.intro z6 (And.intro z7 (And.intro z8 (And.intro z9 z10))))))))); clear z1 z2 z3 z4 z5 z6 z7 z8 z9 z10)
  go_ret2
  obtain ⟨z1, z2, z3, z4, z5, z6, z7, z8, z9, z10⟩ := HZ.out
  obtain ⟨e1, e2, f1, f2, f3, f4⟩ := HXY.out
  refine ⟨?_, g2, put_split_ HQ.out.2.2.2.1 HQ.out.2.2.2.2.1 HQ.out.2.2.2.2.2.1 HQ.out.2.2.2.2.2.2 HQ.out.1 HQ.out.2.1 HQ.out.2.2.1 HP.out ho2 e2 f4 e1 f1 f2 f3 z4 z5 z6 z7 z1 z2 z3, z8, ?_, ?_⟩
  ·rw [HR.out.1, HR.out.2]
   rfl
  ·exact HE.out.2.1.trans z9 (fun b x hx => HE.out.2.2 b x hx)
  ·exact HE.out.2.2.trans z10 HE.out.2.1.size
theorem kid_at {h : Nat} {g : G} {o : Nat} (hk : Tr.Kids o (h + 1) g) {C D : List Pr} (hp : g.ps = C ++ D) : ∃ A k B, g.ks = A ++ k :: B ∧ A.length = C.length := by
 have hl : g.ks.length = g.ps.length + 1 := ((kids_iff o (h + 1) g).1 hk).1
 have hlt : C.length < g.ks.length := by rw [hl, hp]; simp; omega
 refine ⟨g.ks.take C.length, g.ks[C.length], g.ks.drop (C.length + 1), ?_, by rw [List.length_take]; omega⟩
 rw [← List.drop_eq_getElem_cons hlt, List.take_append_drop]
theorem put_any (o : Nat) (ho2 : 2 ≤ o) (ho : o ≤ 100) (key v : Str) : ∀ (h : Nat) (g : G) (w : World), Tr.Kids o h g → Sorted (flat h g) → g.ps.length + 1 ≤ 2 * o → Nd w h g →
  Calls Tryz.prog 94 #[ptrV g.b, .agg #[.string ⟨key.toArray⟩, .string ⟨v.toArray⟩], .int .i64 o] w (PutTo w o h g key v) := by
 intro h
 induction h with
 | zero =>
  intro g w hk hs hl hN
  obtain ⟨C, D, hp, _, hC, hD⟩ := split_at key g.ps hs
  rcases hD with ⟨u, D', rfl, _⟩ | hD
  ·exact put_found_walk o 0 (by omega) g key v u C D' hp (by omega) hk hs w hN
  ·exact put_leaf_walk o (by omega) g key v C D hp hC hD (by omega) hk hs w hN
 | succ h ih =>
  intro g w hk hs hl hN
  have hsp : Sorted g.ps := pairs_sorted ((kids_iff o (h + 1) g).1 hk).1 (by rw [← flat_fl]; exact hs)
  obtain ⟨C, D, hp, _, hC, hD⟩ := split_at key g.ps hsp
  rcases hD with ⟨u, D', rfl, _⟩ | hD
  ·exact put_found_walk o (h + 1) (by omega) g key v u C D' hp (by omega) hk hs w hN
  ·obtain ⟨A, k, B, hks, ha⟩ := kid_at hk hp
   exact put_inner_walk o h ho2 ho g k key v A B C D hp hks ha hC hD (by omega) hk hs (fun k w h1 h2 h3 h4 => ih k w h1 h2 h3 h4) w hN
end Go.Proofs.YtecnijnmgdfdhaaGreat
