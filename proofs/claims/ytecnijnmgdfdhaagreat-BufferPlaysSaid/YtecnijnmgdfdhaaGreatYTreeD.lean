/- Joined: Tree16, Tree17, Tree18, Tree19. -/
import Derived.Test.YtecnijnmgdfdhaaGreatYTree15
namespace Go.Proofs.YtecnijnmgdfdhaaGreat
open Go.RowKit Tr
theorem length_pair {α β : Type} {A : List α} {C : List β} {n : Nat} (h : A.length = C.length) (hl : A.length = n + 1) : ∃ A' a C' c, A = A' ++ [a] ∧ C = C' ++ [c] ∧ A'.length = C'.length := by
 have hA : A ≠ [] := by rintro rfl; simp at hl
 have hC : C ≠ [] := by intro e; rw [e] at h; simp at h; exact hA h
 exact ⟨A.dropLast, A.getLast hA, C.dropLast, C.getLast hC, (List.dropLast_concat_getLast hA).symm, (List.dropLast_concat_getLast hC).symm, by simp [h]⟩
theorem mend_any (o h : Nat) (ho : 2 ≤ o) (ho2 : o ≤ 100) (g k : G) (A B : List G) (C D : List Pr) (i : Nat) (hi : i = A.length) (hnr : Near o h g A k B) (hp : g.ps = C ++ D) (ha : A.length = C.length) (hpos : 0 < g.ps.length) (hn1 : g.ps.length ≤ 500) (w : World) (hN : Nd w (h + 1) g) :
  Calls Tryz.prog 134 #[ptrV g.b, .int .i64 i, .int .i64 o] w (MendTo w o h g) := by
 by_cases hk : o ≤ k.ps.length + 1
 ·exact mendC_fine o h ho ho2 g k A B C D i hi hnr hp ha hk hn1 w hN
 have hk2 : k.ps.length + 2 = o := by have := hnr.lo; omega
 have hbl : B.length = D.length := by
  have := hnr.ar
  rw [hnr.ks, hp] at this
  simp at this
  omega
 have right : (B = [] ∧ D = []) ∨ ∃ r B' m D', B = r :: B' ∧ D = m :: D' := by
  cases B with
  | nil => exact .inl ⟨rfl, List.eq_nil_of_length_eq_zero hbl.symm⟩
  | cons r B =>
   cases D with
   | nil => simp at hbl
   | cons m D => exact .inr ⟨r, B, m, D, rfl, rfl⟩
 have left : (A = [] ∧ C = []) ∨ ∃ A' l C' m, A = A' ++ [l] ∧ C = C' ++ [m] := by
  cases hA : A with
  | nil => exact .inl ⟨rfl, List.eq_nil_of_length_eq_zero (by rw [← ha, hA]; rfl)⟩
  | cons a A2 =>
   obtain ⟨A', l, C', m, e1, e2, _⟩ := length_pair ha (n := A2.length) (by rw [hA]; rfl)
   exact .inr ⟨A', l, C', m, by rw [← hA]; exact e1, e2⟩
 rcases left with ⟨rfl, rfl⟩ | ⟨A', l, C', ml, rfl, rfl⟩
 ·rcases right with ⟨rfl, rfl⟩ | ⟨r, B', mr, D', rfl, rfl⟩
  ·rw [hp] at hpos; simp at hpos
  ·have hr := KidsL.one.1 (KidsL.cons.1 hnr.b).1
   by_cases hrb : o ≤ r.ps.length
   ·exact mendC_right0 o h ho ho2 g k r [] B' [] D' mr i hi hnr hp rfl hk2 hrb hn1 w hN
   ·exact mendC_joinR o h ho ho2 g k r [] B' [] D' mr i hi hnr hp rfl hk2 (by omega) hn1 w hN
 ·have hl := KidsL.one.1 (KidsL.append.1 hnr.a).2
  by_cases hlb : o ≤ l.ps.length
  ·exact mendC_left o h ho ho2 g k l A' B C' D ml i hi hnr hp ha hk2 hlb hn1 w hN
  ·rcases right with ⟨rfl, rfl⟩ | ⟨r, B', mr, D', rfl, rfl⟩
   ·exact mendC_joinL0 o h ho ho2 g k l A' [] C' [] ml i hi hnr hp ha hk2 (by omega) hn1 w hN
   ·have hr := KidsL.one.1 (KidsL.cons.1 hnr.b).1
    by_cases hrb : o ≤ r.ps.length
    ·exact mendC_right1 o h ho ho2 g k l r A' B' C' D' ml mr i hi hnr hp ha hk2 (by omega) hrb hn1 w hN
    ·exact mendC_joinL1 o h ho ho2 g k l r A' B' C' D' ml mr i hi hnr hp ha hk2 (by omega) (by omega) hn1 w hN
def LastTo (w : World) (o h : Nat) (g : G) (e : Ending) (w' : World) : Prop := ∃ z g', e = .returned (.agg #[.string ⟨z.1.toArray⟩, .string ⟨z.2.toArray⟩]) ∧ LastP o h g z g' ∧ Nd w' h g' ∧ Fr (foot h g) w w' ∧ Grew w (foot h g) (foot h g')
theorem two_set (w : World) (B : Nat) (x y : Value) (h0 : (w.cell? ⟨B, 0, none⟩).isSome = true) (h1 : (w.cell? ⟨B, 1, none⟩).isSome = true) :
  ((w.setCell ⟨B, 0, none⟩ x).setCell ⟨B, 1, none⟩ y).cell? ⟨B, 0, none⟩ = some x ∧ ((w.setCell ⟨B, 0, none⟩ x).setCell ⟨B, 1, none⟩ y).cell? ⟨B, 1, none⟩ = some y := by
 have a1 : ((w.setCell ⟨B, 0, none⟩ x).cell? ⟨B, 1, none⟩).isSome = true := by rw [World.cell?_setCell_other _ _ _ _ (by simp)]; exact h1
 exact ⟨(World.cell?_setCell_other _ _ _ _ (by simp)).trans (World.cell?_setCell_same' _ _ _ h0), World.cell?_setCell_same' _ _ _ a1⟩
theorem fin_box {w V : World} {h : Nat} {g g' : G} {ob : Obj} (x y : Value) (hl : Lies w (foot h g)) (n1 : Nd V h g') (n2 : Fr (foot h g) (w.alloc ob) V) (n3 : Grew (w.alloc ob) (foot h g) (foot h g')) :
  Nd ((V.setCell ⟨w.heap.size, 0, none⟩ x).setCell ⟨w.heap.size, 1, none⟩ y) h g' ∧ Fr (foot h g) w ((V.setCell ⟨w.heap.size, 0, none⟩ x).setCell ⟨w.heap.size, 1, none⟩ y) ∧ Grew w (foot h g) (foot h g') := by
 have f : Fr (fun k _ => k = w.heap.size) V ((V.setCell ⟨w.heap.size, 0, none⟩ x).setCell ⟨w.heap.size, 1, none⟩ y) := (fr_cell V w.heap.size 0 x).trans (fr_cell _ w.heap.size 1 y) (fun _ _ h => .inl h)
 have hn : ∀ o, ¬ foot h g' w.heap.size o := fun o ho => by
  rcases n3 _ _ ho with h1 | h1
  ·have := hl _ _ h1; omega
  ·rw [World.size_alloc] at h1; omega
 refine ⟨n1.fr f (fun b o h1 h2 => by subst h2; exact hn o h1), (((Fr.refl (foot h g) w).alloc ob).trans n2 (fun _ _ h => .inl h)).trans f (fun b _ e => .inr (by subst e; exact Nat.le_refl _)), fun b o ho => (n3 b o ho).imp id (fun h1 => by rw [World.size_alloc] at h1; omega)⟩
set_option maxHeartbeats 2000000 in
set_option maxRecDepth 100000 in
theorem removeLast_leaf (o : Nat) (g : G) (X : List Pr) (z : Pr) (hp : g.ps = X ++ [z]) (hk : Tr.Kids o 0 g) (hn : g.ps.length ≤ 500) (w : World) (hN : Nd w 0 g) :
  Calls Tryz.prog 133 #[ptrV g.b, .int .i64 o] w (LastTo w o 0 g) := by
 obtain ⟨pa, pc, ka, kc, ht⟩ := hN.top
 have hzm : g.ps[X.length]? = some z := by rw [hp]; simp
 obtain ⟨pb, po, rfl, _⟩ := ht.pair hzm
 have c0 := ht.c0
 have c1 := ht.c1
 rw [show g.ks.length = 0 by rw [show g.ks = [] from hk]; rfl] at c1
 have p0 := (ht.pairAt hzm).1
 have hgb : g.b < w.heap.size := block_of_cell c0
 have hpb : pb < w.heap.size := block_of_cell p0.1
 have hXl : g.ps.length = X.length + 1 := by rw [hp]; simp
 have hX : Sx (w.alloc (.cells #[.string ⟨#[]⟩, .string ⟨#[]⟩] 168)) (foot 0 g) (w.alloc (.cells #[.string ⟨#[]⟩, .string ⟨#[]⟩] 168)) [⟨g, some ⟨pb, po, none⟩, pc, ka, kc⟩] (subsOf 0 g.ks) := ⟨St.begin_ (hN.later (al1 w _)), fun t h1 => by rw [List.mem_singleton] at h1; subst h1; exact ht.later (al1 w _)⟩
 have HD : Hid (∀ W, Below (w.alloc (.cells #[.string ⟨#[]⟩, .string ⟨#[]⟩] 168)).heap.size (w.alloc (.cells #[.string ⟨#[]⟩, .string ⟨#[]⟩] 168)) W → ∀ zz yy : Int, zz = (X.length : Int) → yy = (X.length : Int) + 1 → Calls Tryz.prog 132 #[.slice (some ⟨pb, po, none⟩) g.ps.length pc, .int .i64 zz, .int .i64 yy] W fun e V => e = .returned (.slice (some ⟨pb, po, none⟩) (g.ps.length - 1) pc) ∧ (V.cell? ⟨g.b, 0, none⟩ = some (.slice (some ⟨pb, po, none⟩) g.ps.length pc) ∧ V.frozen? ⟨g.b, 0, none⟩ = false) ∧
   (∀ b q, w.heap.size ≤ b → b < W.heap.size → V.cell? ⟨b, q, none⟩ = W.cell? ⟨b, q, none⟩ ∧ V.frozen? ⟨b, q, none⟩ = W.frozen? ⟨b, q, none⟩) ∧ W.heap.size ≤ V.heap.size ∧ Hid (Sx (w.alloc (.cells #[.string ⟨#[]⟩, .string ⟨#[]⟩] 168)) (foot 0 g) (V.setCell ⟨g.b, 0, none⟩ (.slice (some ⟨pb, po, none⟩) (g.ps.length - 1) pc)) [⟨.mk g.b g.Fp g.Fk X g.ks, some ⟨pb, po, none⟩, pc, ka, kc⟩] (subsOf 0 g.ks))) := Lib.hid (fun W hb zz yy hz hy => by
  refine (Sx.delP (t := ⟨g, some ⟨pb, po, none⟩, pc, ka, kc⟩) (hX.later hb) (C := X) (D := []) (x := z) (i := X.length) (n := g.ps.length) hp rfl rfl (by omega) zz yy hz hy).mono ?_
  rintro e V ⟨rfl, ⟨u0, u1⟩, _, hf, hs⟩
  refine ⟨rfl, ⟨u0, u1⟩, fun b q hb1 hb2 => ?_, hf.out.size, ?_⟩
  ·have hnb : ¬ g.Fp b q := fun hx => by have := ht.lp _ _ hx; omega
   exact ⟨hf.out.cell b q hb2 hnb, hf.out.froz b q hb2 hnb⟩
  ·rw [List.append_nil] at hs; exact hs)
 have HLI := Lib.hid hN.lies
 have HE : Hid (LastP o 0 g z (.mk g.b g.Fp g.Fk X g.ks)) := Lib.hid ⟨rfl, hk, hp, by rw [hp]; simp [G.ps], by rw [hp]; simp [G.ps]⟩
 obtain ⟨n, hn2⟩ : ∃ n, g.ps.length = n := ⟨_, rfl⟩
 rw [hn2] at HD c0 hn hXl
 have hXn : X.length = n - 1 := by omega
 rw [hXn] at HD p0
 obtain ⟨p1, p2⟩ := p0
 have hi0 : (1 : Int) ≤ (n : Int) := by omega
 have hi1 : (n : Int) ≤ 500 := by omega
 have hi2 : (0 : Int) ≤ (n : Int) - 1 := by omega
 have hi3 : (n : Int) - 1 < (n : Int) := by omega
 have HLF := Lib.hid (fun W hc => leaf_raw g.b ka 0 kc true rfl (by omega) W hc)
 clear hN ht hzm hp hk hX hn2 hXl hXn
 go_enter Tryz.func133, Tryz.ntmps133
 go_wp2_with (first
  | (go_at_call 100; refine (HLF.out _ (by go_simp)).mono ?_; rintro e W2 ⟨rfl, rfl⟩)
  | (go_at_call 132; refine (HD.out _ (al1 (w.alloc (.cells #[.string ⟨#[]⟩, .string ⟨#[]⟩] 168)) _) _ _ (by omega) (by omega)).mono ?_; rintro e V ⟨rfl, ⟨v0, v1⟩, hq, hsz, HS⟩))
 have q0 := (hq w.heap.size 0 (Nat.le_refl _) (by simp; omega)).1
 have q1 := (hq w.heap.size 1 (Nat.le_refl _) (by simp; omega)).1
 have t3 := two_set (V.setCell ⟨g.b, 0, none⟩ (.slice (some ⟨pb, po, none⟩) (n - 1) pc)) w.heap.size (.string ⟨z.1.toArray⟩) (.string ⟨z.2.toArray⟩) (by rw [World.cell?_setCell_other _ _ _ _ (fun e => by have e2 : g.b = w.heap.size := congrArg Addr.block e; omega), q0]; simp) (by rw [World.cell?_setCell_other _ _ _ _ (fun e => by have e2 : g.b = w.heap.size := congrArg Addr.block e; omega), q1]; simp)
 refine bodyPost_ret (v := .agg #[.string ⟨z.1.toArray⟩, .string ⟨z.2.toArray⟩]) (by simp [results, Tryz.results133, go_sem, t3.1, t3.2]) rfl ?_
 obtain ⟨n1, n2, n3⟩ := St.close_ (h := 0) (g := .mk g.b g.Fp g.Fk X g.ks) HS.out.st
 exact ⟨z, _, rfl, HE.out, fin_box _ _ HLI.out n1 n2 n3⟩
end Go.Proofs.YtecnijnmgdfdhaaGreat

namespace Go.Proofs.YtecnijnmgdfdhaaGreat
open Go.RowKit Tr
theorem last_mid (o h : Nat) (ho : 2 ≤ o) (ho2 : o ≤ 100) (g k k' : G) (A : List G) (z : Pr) (hk : Tr.Kids o (h + 1) g) (hks : g.ks = A ++ [k]) (hpos : 0 < g.ps.length) (hn1 : g.ps.length ≤ 500) (w V : World) (ob ob2 : Obj) (hN : Nd w (h + 1) g)
  (hP : LastP o h k z k') (hNk : Nd V h k') (hfr : Fr (foot h k) (w.alloc ob) V) (hgr : Grew (w.alloc ob) (foot h k) (foot h k')) (zz : Int) (hz : zz = (A.length : Int)) :
  Calls Tryz.prog 134 #[ptrV g.b, .int .i64 zz, .int .i64 o] (V.alloc ob2) fun e V2 => e = .returned (.tuple #[]) ∧ Hid (∃ g2, LastP o (h + 1) g z g2 ∧ Nd V2 (h + 1) g2 ∧ Fr (foot (h + 1) g) (w.alloc ob) V2 ∧ Grew (w.alloc ob) (foot (h + 1) g) (foot (h + 1) g2)) ∧
   (∀ q, V2.cell? ⟨w.heap.size, q, none⟩ = (w.alloc ob).cell? ⟨w.heap.size, q, none⟩ ∧ V2.frozen? ⟨w.heap.size, q, none⟩ = (w.alloc ob).frozen? ⟨w.heap.size, q, none⟩) ∧ (∀ q, V2.cell? ⟨V.heap.size, q, none⟩ = (V.alloc ob2).cell? ⟨V.heap.size, q, none⟩) := by
 subst hz
 have hN0 : Nd (w.alloc ob) (h + 1) g := hN.later (al1 w ob)
 obtain ⟨n1, n2, n3⟩ := hN0.kidTo (B := []) hks hfr hNk hP.b hgr
 obtain ⟨hne, hfl⟩ := near_last (g1 := .mk g.b g.Fp g.Fk g.ps (A ++ [k'])) hk hks hP rfl rfl
 have hal : A.length = g.ps.length := by
  have := ((kids_iff o (h + 1) g).1 hk).1
  have : g.ks.length = g.ps.length + 1 := this
  rw [hks] at this
  simpa using this
 refine (mend_any o h ho ho2 (.mk g.b g.Fp g.Fk g.ps (A ++ [k'])) k' A [] g.ps [] A.length rfl hne (by rw [List.append_nil]; rfl) hal hpos hn1 (V.alloc ob2) (n1.later (al1 V ob2))).mono ?_
 rintro e V2 ⟨rfl, g2, m1, m2, m3, m4⟩
 have hPn : ∀ q, ¬ foot (h + 1) (.mk g.b g.Fp g.Fk g.ps (A ++ [k'])) w.heap.size q := fun q hq => by
  rcases n3 _ _ hq with h1 | h1
  ·have := hN.lies _ _ h1; omega
  ·rw [World.size_alloc] at h1; omega
 have hVn : ∀ q, ¬ foot (h + 1) (.mk g.b g.Fp g.Fk g.ps (A ++ [k'])) V.heap.size q := fun q hq => by
  have := n1.lies _ _ hq; omega
 have hkn : ∀ q, ¬ foot h k w.heap.size q := fun q hq => by have := (hN.kidOf (B := []) hks).1.lies _ _ hq; omega
 have hw0 : w.heap.size < (w.alloc ob).heap.size := by simp
 have hwV : w.heap.size < V.heap.size := hfr.lt hw0
 refine ⟨rfl, Lib.hid ⟨g2, m1.last hfl rfl rfl, m2, ?_, ?_⟩, fun q => ⟨?_, ?_⟩, fun q => ?_⟩
 ·refine ((n2.alloc ob2).trans m3 (fun b x hx => n3 b x hx))
 ·refine n3.trans (w1 := V.alloc ob2) m4 ?_
  have := n2.size
  simp only [World.size_alloc] at this ⊢
  omega
 ·have e1 := m3.cell w.heap.size q (by simp; omega) (hPn q)
  have e2 := (al1 V ob2).cell (p := ⟨w.heap.size, q, none⟩) hwV
  have e3 := hfr.cell w.heap.size q hw0 (hkn q)
  exact e1.trans (e2.trans e3)
 ·have e1 := m3.froz w.heap.size q (by simp; omega) (hPn q)
  have e2 := (al1 V ob2).frozen (p := ⟨w.heap.size, q, none⟩) hwV
  have e3 := hfr.froz w.heap.size q hw0 (hkn q)
  exact e1.trans (e2.trans e3)
 ·exact m3.cell V.heap.size q (by simp) (hVn q)
set_option maxHeartbeats 2000000 in
set_option maxRecDepth 100000 in
theorem removeLast_inner (o h : Nat) (ho : 2 ≤ o) (ho2 : o ≤ 100) (g k : G) (A : List G) (hks : g.ks = A ++ [k]) (hk : Tr.Kids o (h + 1) g) (hpos : 0 < g.ps.length) (hn : g.ps.length ≤ 500)
  (IH : ∀ (k : G) (w : World), Tr.Kids o h k → 0 < k.ps.length → k.ps.length ≤ 500 → Nd w h k → Calls Tryz.prog 133 #[ptrV k.b, .int .i64 o] w (LastTo w o h k)) (w : World) (hN : Nd w (h + 1) g) :
  Calls Tryz.prog 133 #[ptrV g.b, .int .i64 o] w (LastTo w o (h + 1) g) := by
 obtain ⟨pa, pc, ka, kc, ht⟩ := hN.top
 have har : g.ks.length = g.ps.length + 1 := ((kids_iff o (h + 1) g).1 hk).1
 have hkl := (kids_iff o (h + 1) g).1 hk
 rw [hks] at hkl
 obtain ⟨k1, k2, k3, k4⟩ := kidsL_last.1 hkl.2
 have hkm : g.ks[A.length]? = some k := by rw [hks]; simp
 obtain ⟨kb, ko, rfl, _⟩ := ht.kid hkm
 have c1 := ht.c1
 have e0 := (ht.kidAt hkm).1
 have hgb : g.b < w.heap.size := block_of_cell c1
 have hkb : kb < w.heap.size := block_of_cell e0
 have hAl : g.ks.length = A.length + 1 := by rw [hks]; simp
 have HREC := Lib.hid (IH k (w.alloc (.cells #[.string ⟨#[]⟩, .string ⟨#[]⟩] 168)) k2 (by omega) (by omega) (hN.later (al1 w _) |>.kidOf (B := []) hks).1)
 have HM := Lib.hid (fun k' z V ob2 h1 h2 h3 h4 zz hz => last_mid o h ho ho2 g k k' A z hk hks hpos hn w V (.cells #[.string ⟨#[]⟩, .string ⟨#[]⟩] 168) ob2 hN h1 h2 h3 h4 zz hz)
 have HLI := Lib.hid hN.lies
 obtain ⟨n, hn2⟩ : ∃ n, g.ks.length = n := ⟨_, rfl⟩
 rw [hn2] at c1 hAl har
 rw [show A.length = n - 1 by omega] at e0 HM
 have hi0 : (1 : Int) ≤ (n : Int) := by omega
 have hi1 : (n : Int) ≤ 600 := by omega
 have hi2 : (0 : Int) ≤ (n : Int) - 1 := by omega
 have hi3 : (n : Int) - 1 < (n : Int) := by omega
 have HLF := Lib.hid (fun W hc => leaf_raw g.b (some ⟨kb, ko, none⟩) n kc false (by simp; omega) (by omega) W hc)
 clear hN ht har hkl k1 k2 k3 k4 hkm hks hk hpos hn IH hn2 hAl
 go_enter Tryz.func133, Tryz.ntmps133
 go_wp2_with (first
  | (go_at_call 100; refine (HLF.out _ (by go_simp)).mono ?_; rintro e W2 ⟨rfl, rfl⟩)
  | (go_at_call 133; refine HREC.out.mono ?_; rintro e V ⟨z, k', rfl, hp1, hp2, hp3, hp4⟩; have HP := Lib.hid (And.intro hp1 (And.intro hp2 (And.intro hp3 hp4))); clear hp1 hp2 hp3 hp4; have hsV : w.heap.size < V.heap.size := HP.out.2.2.1.lt (by simp))
  | (go_at_call 134; refine (HM.out k' z V _ HP.out.1 HP.out.2.1 HP.out.2.2.1 HP.out.2.2.2 _ (by omega)).mono ?_; rintro e V2 ⟨rfl, HF, hq, hqV⟩; have q0 := (hq 0).1; have q1 := (hq 1).1; have q2 := (hq 0).2; have q3 := (hq 1).2; have q4 := hqV 0; have q5 := hqV 1; simp at q0 q1 q2 q3 q4 q5; clear hq hqV))
 have t3 := two_set V2 w.heap.size (.string ⟨z.1.toArray⟩) (.string ⟨z.2.toArray⟩) (by rw [q0]; rfl) (by rw [q1]; rfl)
 refine bodyPost_ret (v := .agg #[.string ⟨z.1.toArray⟩, .string ⟨z.2.toArray⟩]) (by simp [results, Tryz.results133, go_sem, t3.1, t3.2]) rfl ?_
 obtain ⟨g2, l1, n1, n2, n3⟩ := HF.out
 exact ⟨z, g2, rfl, l1, fin_box _ _ HLI.out n1 n2 n3⟩
theorem snoc_of {α : Type} {L : List α} (h : 0 < L.length) : ∃ A x, L = A ++ [x] := by
 have hL : L ≠ [] := by rintro rfl; simp at h
 exact ⟨L.dropLast, L.getLast hL, (List.dropLast_concat_getLast hL).symm⟩
theorem removeLast_any (o : Nat) (ho : 2 ≤ o) (ho2 : o ≤ 100) : ∀ (h : Nat) (g : G) (w : World), Tr.Kids o h g → 0 < g.ps.length → g.ps.length ≤ 500 → Nd w h g →
  Calls Tryz.prog 133 #[ptrV g.b, .int .i64 o] w (LastTo w o h g) := by
 intro h
 induction h with
 | zero =>
  intro g w hk hpos hn hN
  obtain ⟨X, z, hp⟩ := snoc_of hpos
  exact removeLast_leaf o g X z hp hk hn w hN
 | succ h ih =>
  intro g w hk hpos hn hN
  obtain ⟨A, k, hks⟩ := snoc_of (L := g.ks) (by have := ((kids_iff o (h + 1) g).1 hk).1; have : g.ks.length = g.ps.length + 1 := this; omega)
  exact removeLast_inner o h ho ho2 g k A hks hk hpos hn (fun k w h1 h2 h3 h4 => ih k w h1 h2 h3 h4) w hN
end Go.Proofs.YtecnijnmgdfdhaaGreat

namespace Go.Proofs.YtecnijnmgdfdhaaGreat
open Go.RowKit Tr
open Ky (less)
def DelTo (w : World) (o h : Nat) (g : G) (key : Str) (e : Ending) (w' : World) : Prop :=
 e = .returned (.tuple #[.string ⟨(oldS key (flat h g)).toArray⟩, .bool (get key (flat h g)).isSome]) ∧ ∃ g', DelP o h g key g' ∧ Nd w' h g' ∧ Fr (foot h g) w w' ∧ Grew w (foot h g) (foot h g')
theorem mend_later (o h : Nat) (ho : 2 ≤ o) (ho2 : o ≤ 100) (g g1 k' : G) (A B : List G) (C D : List Pr) (i : Nat) (hi : i = A.length) (hb : g1.b = g.b) (hne : Near o h g1 A k' B) (hp : g1.ps = C ++ D) (ha : A.length = C.length) (hpos : 0 < g1.ps.length) (hn1 : g1.ps.length ≤ 500) (w V : World)
  (n1 : Nd V (h + 1) g1) (n2 : Fr (foot (h + 1) g) w V) (n3 : Grew w (foot (h + 1) g) (foot (h + 1) g1)) :
  Calls Tryz.prog 134 #[ptrV g.b, .int .i64 i, .int .i64 o] V fun e V2 => e = .returned (.tuple #[]) ∧ Hid (∃ g2, MendP o h g1 g2 ∧ Nd V2 (h + 1) g2 ∧ Fr (foot (h + 1) g) w V2 ∧ Grew w (foot (h + 1) g) (foot (h + 1) g2)) := by
 rw [← hb]
 refine (mend_any o h ho ho2 g1 k' A B C D i hi hne hp ha hpos hn1 V n1).mono ?_
 rintro e V2 ⟨rfl, g2, m1, m2, m3, m4⟩
 exact ⟨rfl, Lib.hid ⟨g2, m1, m2, n2.trans m3 (fun b x hx => n3 b x hx), n3.trans m4 n2.size⟩⟩
set_option maxHeartbeats 2000000 in
theorem remove_leaf0 (o : Nat) (g : G) (key : Str) (C D : List Pr) (hp : g.ps = C ++ D) (hC : Bel C key) (hD : Abv D key) (hn : g.ps.length ≤ 500) (hk : Tr.Kids o 0 g) (hs : Sorted (flat 0 g)) (w : World) (hN : Nd w 0 g) :
  Calls Tryz.prog 99 #[ptrV g.b, .string ⟨key.toArray⟩, .int .i64 o] w (DelTo w o 0 g key) := by
 obtain ⟨pa, pc, ka, kc, ht⟩ := hN.top
 obtain ⟨hpl, hat⟩ := at_no hC hD
 rw [← hp] at hpl hat
 have HF := Lib.hid (fun W hW => find_any g key hs (by omega) W hW)
 rw [hpl, hat] at HF
 have hget : get key (flat 0 g) = none := by
  rw [flat_fl, hp]; exact (put_leaf (x := (key, [])) hC hD g.ks g.ks).2
 have HE : Hid (∀ W, Below w.heap.size w W → DelTo w o 0 g key (.returned (.tuple #[.string ⟨#[]⟩, .bool false])) W) := Lib.hid (fun W hb =>
  ⟨by unfold oldS; rw [hget]; rfl, g, ⟨rfl, hk, (del_none hget).symm, by omega, Nat.le_refl _, fun _ => rfl⟩, hN.later hb, Fr.ofBelow hb _, Grew.refl _ _⟩)
 have c1 := ht.c1
 rw [show g.ks.length = 0 by rw [show g.ks = [] from hk]; rfl] at c1
 have HT := Lib.hid ht
 have HLF := Lib.hid (fun W hc => leaf_raw g.b ka 0 kc true rfl (by omega) W hc)
 obtain ⟨i, hi⟩ : ∃ i, C.length = i := ⟨_, rfl⟩
 rw [hi] at HF
 clear hN ht hp hC hD hn hk hs hpl hat hget hi
 go_enter Tryz.func99, Tryz.ntmps99
 go_wp2_with (first
  | (go_at_call 124; refine (HF.out _ ⟨_, _, _, _, HT.out⟩).mono ?_; rintro e W ⟨rfl, hb⟩; have H1 := Lib.hid hb; have x1 := old_cell c1 hb; clear hb)
  | (go_at_call 100; refine (HLF.out _ x1).mono ?_; rintro e W2 ⟨rfl, rfl⟩))
 go_ret2
 exact HE.out _ H1.out
set_option maxHeartbeats 2000000 in
theorem remove_leaf1 (o : Nat) (g : G) (key v : Str) (C D : List Pr) (hp : g.ps = C ++ (key, v) :: D) (hn : g.ps.length ≤ 500) (hk : Tr.Kids o 0 g) (hs : Sorted (flat 0 g)) (w : World) (hN : Nd w 0 g) :
  Calls Tryz.prog 99 #[ptrV g.b, .string ⟨key.toArray⟩, .int .i64 o] w (DelTo w o 0 g key) := by
 obtain ⟨pa, pc, ka, kc, ht⟩ := hN.top
 have hsp : Sorted g.ps := hs
 have hC : Bel C key := by rw [hp] at hsp; exact hsp.bel
 have hpl : pl key g.ps = C.length := by rw [hp, pl_left hC, pl, if_neg (by rw [Ky.less_self]; decide)]; omega
 have hpi : g.ps[C.length]? = some (key, v) := by rw [hp]; simp
 have hat : hasAt key g.ps = true := by unfold hasAt; rw [hpl, hpi]; simp
 obtain ⟨pb, po, rfl, _⟩ := ht.pair hpi
 have HF := Lib.hid (fun W hW => find_any g key hs (by omega) W hW)
 rw [hpl, hat] at HF
 have hget : get key (flat 0 g) = some v := by
  rw [flat_fl, hp]
  exact (put_node (h := 0) (u := v) (ks := g.ks) (by rw [show g.ks = [] from hk]; rfl) (by rw [← hp]; exact hs)).2
 have HR : Hid (oldS key (flat 0 g) = v ∧ (get key (flat 0 g)).isSome = true) := Lib.hid ⟨by unfold oldS; rw [hget]; rfl, by rw [hget]; rfl⟩
 have HP : Hid (∀ F', DelP o 0 g key (.mk g.b F' g.Fk (C ++ D) g.ks)) := Lib.hid (fun F' => ⟨rfl, hk, by rw [flat_fl, flat_fl, hp]; exact del_leaf hC _ _, by rw [hp]; simp [G.ps]; omega, by rw [hp]; simp [G.ps], fun e => by rw [hget] at e; cases e⟩)
 have c0 := ht.c0
 have c1 := ht.c1
 rw [show g.ks.length = 0 by rw [show g.ks = [] from hk]; rfl] at c1
 have hgb : g.b < w.heap.size := block_of_cell c0
 have HT := Lib.hid ht
 have hX : Sx w (foot 0 g) w [⟨g, some ⟨pb, po, none⟩, pc, ka, kc⟩] (subsOf 0 g.ks) := ⟨St.begin_ hN, fun t h1 => by rw [List.mem_singleton] at h1; subst h1; exact ht⟩
 have HD := Lib.hid (fun W (hb : Below w.heap.size w W) zz yy hz hy => Sx.delP (t := ⟨g, some ⟨pb, po, none⟩, pc, ka, kc⟩) (hX.later hb) (C := C) (D := D) (x := (key, v)) (i := C.length) (n := g.ps.length) hp rfl rfl (by omega) zz yy hz hy)
 have p2 := (ht.pairAt hpi).1.2
 have hlt : C.length < g.ps.length := (List.getElem?_eq_some_iff.1 hpi).1
 have HLF := Lib.hid (fun W hc => leaf_raw g.b ka 0 kc true rfl (by omega) W hc)
 obtain ⟨n, hn2⟩ : ∃ n, g.ps.length = n := ⟨_, rfl⟩
 obtain ⟨i, hi⟩ : ∃ i, C.length = i := ⟨_, rfl⟩
 rw [hn2] at HD c0 hn hlt
 rw [hi] at HF HD p2 hlt
 have hi0 : (0 : Int) ≤ (i : Int) := by omega
 have hi1 : (i : Int) < (n : Int) := by omega
 have hi2 : (n : Int) ≤ 500 := by omega
 clear hN ht hp hC hsp hk hs hpl hpi hat hget hi hn2 hX
 go_enter Tryz.func99, Tryz.ntmps99
 go_wp2_with (first
  | (go_at_call 124; refine (HF.out _ ⟨_, _, _, _, HT.out⟩).mono ?_; rintro e W ⟨rfl, hb⟩; have H1 := Lib.hid hb; have x1 := old_cell c1 hb; have x0 := old_cell c0 hb; have x2 := old_cell p2 hb; clear hb)
  | (go_at_call 100; refine (HLF.out _ x1).mono ?_; rintro e W2 ⟨rfl, rfl⟩)
  | (go_at_call 132; refine (HD.out _ H1.out _ _ rfl rfl).mono ?_; rintro e V ⟨rfl, ⟨v0, v1⟩, _, _, HS⟩))
 go_ret2
 obtain ⟨n1, n2, n3⟩ := St.close_ (h := 0) (g := .mk g.b g.Fp g.Fk (C ++ D) g.ks) HS.out.st
 exact ⟨by rw [HR.out.1, HR.out.2]; rfl, _, HP.out _, n1, n2, n3⟩
end Go.Proofs.YtecnijnmgdfdhaaGreat

namespace Go.Proofs.YtecnijnmgdfdhaaGreat
open Go.RowKit Tr
open Ky (less)
set_option maxHeartbeats 4000000 in
set_option maxRecDepth 100000 in
theorem remove_inner0 (o h : Nat) (ho : 2 ≤ o) (ho2 : o ≤ 100) (g k : G) (key : Str) (A B : List G) (C D : List Pr) (hp : g.ps = C ++ D) (hks : g.ks = A ++ k :: B) (ha : A.length = C.length) (hC : Bel C key) (hD : Abv D key) (hpos : 0 < g.ps.length) (hn : g.ps.length ≤ 500) (hk : Tr.Kids o (h + 1) g) (hs : Sorted (flat (h + 1) g))
  (IH : ∀ (k : G) (w : World), Tr.Kids o h k → Sorted (flat h k) → 0 < k.ps.length → k.ps.length ≤ 500 → Nd w h k → Calls Tryz.prog 99 #[ptrV k.b, .string ⟨key.toArray⟩, .int .i64 o] w (DelTo w o h k key))
  (w : World) (hN : Nd w (h + 1) g) :
  Calls Tryz.prog 99 #[ptrV g.b, .string ⟨key.toArray⟩, .int .i64 o] w (DelTo w o (h + 1) g key) := by
 obtain ⟨pa, pc, ka, kc, ht⟩ := hN.top
 have hsp : Sorted g.ps := pairs_sorted ((kids_iff o (h + 1) g).1 hk).1 (by rw [← flat_fl]; exact hs)
 have har : g.ks.length = g.ps.length + 1 := ((kids_iff o (h + 1) g).1 hk).1
 obtain ⟨hpl, hat⟩ := at_no hC hD
 rw [← hp] at hpl hat
 have HF := Lib.hid (fun W hW => find_any g key hsp (by omega) W hW)
 rw [hpl, hat] at HF
 obtain ⟨hget, hks1, hks2, hks3, hks4⟩ := get_kid_ hk hs hC hD hp hks ha
 have hkm : g.ks[C.length]? = some k := by rw [hks, ← ha]; exact kid_get _ _ _
 obtain ⟨kb, ko, rfl, _⟩ := ht.kid hkm
 have c1 := ht.c1
 have e0 := (ht.kidAt hkm).1
 obtain ⟨old, hold⟩ : ∃ x, oldS key (flat (h + 1) g) = x := ⟨_, rfl⟩
 obtain ⟨was, hwas⟩ : ∃ x, (get key (flat (h + 1) g)).isSome = x := ⟨_, rfl⟩
 have HR := Lib.hid (And.intro hold hwas)
 have HREC : Hid (∀ W, Below w.heap.size w W → Calls Tryz.prog 99 #[ptrV k.b, .string ⟨key.toArray⟩, .int .i64 o] W fun e V => e = .returned (.tuple #[.string ⟨old.toArray⟩, .bool was]) ∧
   Hid (Calls Tryz.prog 134 #[ptrV g.b, .int .i64 (C.length : Int), .int .i64 o] V fun e V2 => e = .returned (.tuple #[]) ∧ Hid (∃ g', DelP o (h + 1) g key g' ∧ Nd V2 (h + 1) g' ∧ Fr (foot (h + 1) g) w V2 ∧ Grew w (foot (h + 1) g) (foot (h + 1) g')))) := Lib.hid (fun W hb => by
  have hNW := hN.later hb
  refine (IH k W hks2 hks1 (by omega) (by omega) (hNW.kidOf hks).1).mono ?_
  rintro e V ⟨rfl, k', hP, hNk, hfr, hgr⟩
  obtain ⟨n1, n2, n3⟩ := hNW.kidTo hks hfr hNk hP.b hgr
  obtain ⟨hne, hfl, hkf⟩ := near_del (g1 := .mk g.b g.Fp g.Fk g.ps (A ++ k' :: B)) hk hs hC hD hp hks ha hP rfl rfl
  refine ⟨by rw [← hold, ← hwas]; unfold oldS; rw [hget], Lib.hid ?_⟩
  refine (mend_later o h ho ho2 g (.mk g.b g.Fp g.Fk g.ps (A ++ k' :: B)) k' A B C D C.length ha.symm rfl hne hp ha hpos hn w V n1 ((Fr.ofBelow hb _).trans n2 (fun _ _ h => .inl h)) (fun b x hx => (n3 b x hx).imp id (fun h => Nat.le_trans hb.size h))).mono ?_
  rintro e V2 ⟨rfl, hx⟩
  obtain ⟨g2, m1, m2, m3, m4⟩ := hx.out
  exact ⟨rfl, Lib.hid ⟨g2, m1.del hfl rfl rfl hkf, m2, m3, m4⟩⟩)
 have HT := Lib.hid ht
 obtain ⟨n, hn2⟩ : ∃ n, g.ps.length = n := ⟨_, rfl⟩
 obtain ⟨i, hi⟩ : ∃ i, C.length = i := ⟨_, rfl⟩
 have hin : i ≤ n := by rw [← hi, ← hn2, hp]; simp
 rw [har, hn2] at c1
 rw [hn2] at hn
 rw [hi] at HF HREC e0
 have hi0 : (0 : Int) ≤ (i : Int) := by omega
 have hi1 : (i : Int) < (n : Int) + 1 := by omega
 have hi2 : (i : Int) < ((n + 1 : Nat) : Int) := by omega
 have HLF := Lib.hid (fun W hc => leaf_raw g.b (some ⟨kb, ko, none⟩) (n + 1) kc false rfl (by omega) W hc)
 clear hN ht hp hks ha hC hD hpos hn hk hs IH hsp har hpl hat hget hks1 hks2 hks3 hks4 hkm hold hwas hn2 hi
 go_enter Tryz.func99, Tryz.ntmps99
 go_wp2_with (first
  | (go_at_call 124; refine (HF.out _ ⟨_, _, _, _, HT.out⟩).mono ?_; rintro e W ⟨rfl, hb⟩; have H1 := Lib.hid hb; have x1 := old_cell c1 hb; have x0 := old_cell e0 hb; clear hb)
  | (go_at_call 100; refine (HLF.out _ x1).mono ?_; rintro e W2 ⟨rfl, rfl⟩)
  | (go_at_call 99; refine (HREC.out _ H1.out).mono ?_; rintro e V ⟨rfl, HM⟩)
  | (go_at_call 134; refine HM.out.mono ?_; rintro e V2 ⟨rfl, HE⟩))
 go_ret2
 refine ⟨?_, HE.out⟩
 rw [HR.out.1, HR.out.2]
 rfl
theorem Nd.setPair {V : World} {h : Nat} {g : G} {pb po pc : Nat} {ka : Option Addr} {kc : Nat} (hN : Nd V h g) (ht : Top V g (some ⟨pb, po, none⟩) pc ka kc) {C D : List Pr} {m z : Pr} {i : Nat} (hp : g.ps = C ++ m :: D) (hi : C.length = i) :
  Nd ((V.setCell ⟨pb, po + i * 2, none⟩ (.string ⟨z.1.toArray⟩)).setCell ⟨pb, po + i * 2 + 1, none⟩ (.string ⟨z.2.toArray⟩)) h (.mk g.b g.Fp g.Fk (C ++ z :: D) g.ks) ∧
   Fr (foot h g) V ((V.setCell ⟨pb, po + i * 2, none⟩ (.string ⟨z.1.toArray⟩)).setCell ⟨pb, po + i * 2 + 1, none⟩ (.string ⟨z.2.toArray⟩)) ∧ Grew V (foot h g) (foot h (.mk g.b g.Fp g.Fk (C ++ z :: D) g.ks)) := by
 have hX : Sx V (foot h g) V [⟨g, some ⟨pb, po, none⟩, pc, ka, kc⟩] (subsOf h g.ks) := ⟨St.begin_ hN, fun t h1 => by rw [List.mem_singleton] at h1; subst h1; exact ht⟩
 exact St.close_ (hX.setPair (z := z) hp hi).2.2.st
set_option maxHeartbeats 4000000 in
set_option maxRecDepth 100000 in
theorem remove_inner1 (o h : Nat) (ho : 2 ≤ o) (ho2 : o ≤ 100) (g k : G) (key v : Str) (A B : List G) (C D : List Pr) (hp : g.ps = C ++ (key, v) :: D) (hks : g.ks = A ++ k :: B) (ha : A.length = C.length) (hn : g.ps.length ≤ 500) (hk : Tr.Kids o (h + 1) g) (hs : Sorted (flat (h + 1) g)) (w : World) (hN : Nd w (h + 1) g) :
  Calls Tryz.prog 99 #[ptrV g.b, .string ⟨key.toArray⟩, .int .i64 o] w (DelTo w o (h + 1) g key) := by
 obtain ⟨pa, pc, ka, kc, ht⟩ := hN.top
 have hsp : Sorted g.ps := pairs_sorted ((kids_iff o (h + 1) g).1 hk).1 (by rw [← flat_fl]; exact hs)
 have har : g.ks.length = g.ps.length + 1 := ((kids_iff o (h + 1) g).1 hk).1
 have hC : Bel C key := by rw [hp] at hsp; exact hsp.bel
 have hpl : pl key g.ps = C.length := by rw [hp, pl_left hC, pl, if_neg (by rw [Ky.less_self]; decide)]; omega
 have hpi : g.ps[C.length]? = some (key, v) := by rw [hp]; simp
 have hat : hasAt key g.ps = true := by unfold hasAt; rw [hpl, hpi]; simp
 have HF := Lib.hid (fun W hW => find_any g key hsp (by omega) W hW)
 rw [hpl, hat] at HF
 have hkm : g.ks[C.length]? = some k := by rw [hks, ← ha]; exact kid_get _ _ _
 have hkk : Tr.Kids o h k ∧ o ≤ k.ps.length + 1 ∧ k.ps.length + 1 ≤ 2 * o := by
  have := ((kids_iff o (h + 1) g).1 hk).2
  rw [hks] at this
  exact (kidsL_mid.1 this).2.1
 obtain ⟨kb, ko, rfl, _⟩ := ht.kid hkm
 obtain ⟨pb, po, rfl, _⟩ := ht.pair hpi
 have c0 := ht.c0
 have c1 := ht.c1
 have e0 := (ht.kidAt hkm).1
 have p2 := (ht.pairAt hpi).1.2
 have hgb : g.b < w.heap.size := block_of_cell c0
 have HR : Hid (oldS key (flat (h + 1) g) = v ∧ (get key (flat (h + 1) g)).isSome = true) := Lib.hid (by
  have hget := (put_node (h := h + 1) (u := v) (ks := g.ks) (by rw [← hp]; exact har) (by rw [← hp, ← flat_fl]; exact hs)).2
  rw [← hp, ← flat_fl] at hget
  exact ⟨by unfold oldS; rw [hget]; rfl, by rw [hget]; rfl⟩)
 have HREC : Hid (∀ W, Below w.heap.size w W → Calls Tryz.prog 133 #[ptrV k.b, .int .i64 o] W fun e V => ∃ z : Pr, e = .returned (.agg #[.string ⟨z.1.toArray⟩, .string ⟨z.2.toArray⟩]) ∧
   ((V.cell? ⟨g.b, 0, none⟩ = some (.slice (some ⟨pb, po, none⟩) g.ps.length pc) ∧ V.cell? ⟨g.b, 1, none⟩ = some (.slice (some ⟨kb, ko, none⟩) g.ks.length kc)) ∧ V.cell? ⟨kb, ko + C.length, none⟩ = some (ptrV k.b)) ∧
   ((V.cell? ⟨pb, po + C.length * 2, none⟩ = some (.string ⟨key.toArray⟩) ∧ V.cell? ⟨pb, po + C.length * 2 + 1, none⟩ = some (.string ⟨v.toArray⟩)) ∧ (V.frozen? ⟨pb, po + C.length * 2, none⟩ = false ∧ V.frozen? ⟨pb, po + C.length * 2 + 1, none⟩ = false)) ∧
   ((((V.setCell ⟨pb, po + C.length * 2, none⟩ (.string ⟨z.1.toArray⟩)).setCell ⟨pb, po + C.length * 2 + 1, none⟩ (.string ⟨z.2.toArray⟩)).cell? ⟨g.b, 0, none⟩ = some (.slice (some ⟨pb, po, none⟩) g.ps.length pc) ∧ ((V.setCell ⟨pb, po + C.length * 2, none⟩ (.string ⟨z.1.toArray⟩)).setCell ⟨pb, po + C.length * 2 + 1, none⟩ (.string ⟨z.2.toArray⟩)).cell? ⟨g.b, 1, none⟩ = some (.slice (some ⟨kb, ko, none⟩) g.ks.length kc)) ∧ ((V.setCell ⟨pb, po + C.length * 2, none⟩ (.string ⟨z.1.toArray⟩)).setCell ⟨pb, po + C.length * 2 + 1, none⟩ (.string ⟨z.2.toArray⟩)).cell? ⟨kb, ko + C.length, none⟩ = some (ptrV k.b)) ∧
   Hid (Calls Tryz.prog 134 #[ptrV g.b, .int .i64 (C.length : Int), .int .i64 o] ((V.setCell ⟨pb, po + C.length * 2, none⟩ (.string ⟨z.1.toArray⟩)).setCell ⟨pb, po + C.length * 2 + 1, none⟩ (.string ⟨z.2.toArray⟩)) fun e V2 => e = .returned (.tuple #[]) ∧ Hid (∃ g', DelP o (h + 1) g key g' ∧ Nd V2 (h + 1) g' ∧ Fr (foot (h + 1) g) w V2 ∧ Grew w (foot (h + 1) g) (foot (h + 1) g')))) := Lib.hid (fun W hb => by
  have hNW := hN.later hb
  refine (removeLast_any o ho ho2 h k W hkk.1 (by omega) (by omega) (hNW.kidOf hks).1).mono ?_
  rintro e V ⟨z, k', rfl, hP, hNk, hfr, hgr⟩
  obtain ⟨n1, n2, n3⟩ := hNW.kidTo hks hfr hNk hP.b hgr
  have hap := topF_kid hNW (show k ∈ g.ks by rw [hks]; simp)
  have hTV : Top V (.mk g.b g.Fp g.Fk g.ps (A ++ k' :: B)) (some ⟨pb, po, none⟩) pc (some ⟨kb, ko, none⟩) kc := ((ht.later hb).fr hfr hap).kids_eq (by rw [hks]; simp [kidsV, hP.b])
  have hTV0 := (ht.later hb).fr hfr hap
  have hkl : (A ++ k' :: B).length = g.ks.length := by rw [hks]; simp
  obtain ⟨s1, s2, s3⟩ := n1.setPair (z := z) hTV hp rfl
  have hX : Sx V (foot (h + 1) (.mk g.b g.Fp g.Fk g.ps (A ++ k' :: B))) V [⟨.mk g.b g.Fp g.Fk g.ps (A ++ k' :: B), some ⟨pb, po, none⟩, pc, some ⟨kb, ko, none⟩, kc⟩] (subsOf (h + 1) (A ++ k' :: B)) := ⟨St.begin_ n1, fun t h1 => by rw [List.mem_singleton] at h1; subst h1; exact hTV⟩
  have hT2 := (hX.setPair (C := C) (D := D) (m := (key, v)) (z := z) hp rfl).2.2.hd
  have hkm2 : (A ++ k' :: B)[C.length]? = some k' := by rw [← ha]; exact kid_get _ _ _
  obtain ⟨q1, q2, _⟩ := (hTV0.pairAt hpi)
  have r0 := hT2.c0
  have r1 := hT2.c1
  have r2 := (Top.kidAt (g := .mk g.b g.Fp g.Fk (C ++ z :: D) (A ++ k' :: B)) hT2 hkm2).1
  rw [hP.b] at r2
  have hpl2 : (C ++ z :: D).length = g.ps.length := by rw [hp]; simp
  refine ⟨z, rfl, ⟨⟨hTV0.c0, hTV0.c1⟩, (hTV0.kidAt hkm).1⟩, ⟨q1, q2⟩, ⟨⟨by rw [← hpl2]; exact r0, by rw [← hkl]; exact r1⟩, r2⟩, Lib.hid ?_⟩
  obtain ⟨hne, hfl, hgv⟩ := near_swap (g1 := .mk g.b g.Fp g.Fk (C ++ z :: D) (A ++ k' :: B)) hk hs hp hks ha hP rfl rfl
  refine (mend_later o h ho ho2 g (.mk g.b g.Fp g.Fk (C ++ z :: D) (A ++ k' :: B)) k' A B C (z :: D) C.length ha.symm rfl hne rfl ha (by show 0 < (C ++ z :: D).length; simp; omega) (by show (C ++ z :: D).length ≤ 500; rw [hpl2]; exact hn) w _ s1 (((Fr.ofBelow hb _).trans n2 (fun _ _ h => .inl h)).trans s2 (fun b x hx => (n3 b x hx).imp id (fun h => Nat.le_trans hb.size h))) (fun b x hx => by
   rcases s3 b x hx with h1 | h1
   ·exact (n3 b x h1).imp id (fun h => Nat.le_trans hb.size h)
   ·exact .inr (Nat.le_trans hb.size (Nat.le_trans n2.size h1)))).mono ?_
  rintro e V2 ⟨rfl, hx⟩
  obtain ⟨g2, m1, m2, m3, m4⟩ := hx.out
  exact ⟨rfl, Lib.hid ⟨g2, m1.del hfl rfl hpl2 (fun e => by rw [hgv] at e; cases e), m2, m3, m4⟩⟩)
 have HT := Lib.hid ht
 obtain ⟨n, hn2⟩ : ∃ n, g.ps.length = n := ⟨_, rfl⟩
 obtain ⟨i, hi⟩ : ∃ i, C.length = i := ⟨_, rfl⟩
 have hin : i < n := by rw [← hi, ← hn2, hp]; simp
 rw [har, hn2] at c1 HREC
 rw [hn2] at hn c0
 rw [hi] at HF HREC e0 p2
 have hi0 : (0 : Int) ≤ (i : Int) := by omega
 have hi1 : (i : Int) < (n : Int) + 1 := by omega
 have hi2 : (i : Int) < ((n + 1 : Nat) : Int) := by omega
 have hi3 : (i : Int) < (n : Int) := by omega
 have HLF := Lib.hid (fun W hc => leaf_raw g.b (some ⟨kb, ko, none⟩) (n + 1) kc false rfl (by omega) W hc)
 clear hN ht hp hks ha hC hn hk hs hsp har hpl hat hpi hkk hkm hn2 hi
 go_enter Tryz.func99, Tryz.ntmps99
 go_wp2_with (first
  | (go_at_call 124; refine (HF.out _ ⟨_, _, _, _, HT.out⟩).mono ?_; rintro e W ⟨rfl, hb⟩; have H1 := Lib.hid hb; have x1 := old_cell c1 hb; have x0 := old_cell c0 hb; have x2 := old_cell e0 hb; have x3 := old_cell p2 hb; clear hb)
  | (go_at_call 100; refine (HLF.out _ x1).mono ?_; rintro e W2 ⟨rfl, rfl⟩))
 go_region_held3 (fun V => (V.cell? ⟨g.b, 0, none⟩ = some (.slice (some ⟨pb, po, none⟩) n pc) ∧ V.cell? ⟨g.b, 1, none⟩ = some (.slice (some ⟨kb, ko, none⟩) (n + 1) kc)) ∧ V.cell? ⟨kb, ko + i, none⟩ = some (ptrV k.b))
  (first | exact ⟨⟨x0, x1⟩, x2⟩ | exact ya | exact yc)
  ((go_at_call 133; refine (HREC.out _ H1.out.drew).mono ?_; rintro e V ⟨z, rfl, ya, ⟨⟨yb0, yb1⟩, yb2, yb3⟩, yc, HM⟩))
 rename_i hHeld
 clear hHeld
 go_wp2_with (go_at_call 134; refine HM.out.mono ?_; rintro e V2 ⟨rfl, HE⟩)
 go_ret2
 refine ⟨?_, HE.out⟩
 rw [HR.out.1, HR.out.2]
 rfl
theorem remove_any (o : Nat) (ho : 2 ≤ o) (ho2 : o ≤ 100) (key : Str) : ∀ (h : Nat) (g : G) (w : World), Tr.Kids o h g → Sorted (flat h g) → (0 < h → 0 < g.ps.length) → g.ps.length ≤ 500 → Nd w h g →
  Calls Tryz.prog 99 #[ptrV g.b, .string ⟨key.toArray⟩, .int .i64 o] w (DelTo w o h g key) := by
 intro h
 induction h with
 | zero =>
  intro g w hk hs _ hn hN
  obtain ⟨C, D, hp, _, hC, hD⟩ := split_at key g.ps hs
  rcases hD with ⟨u, D', rfl, _⟩ | hD
  ·exact remove_leaf1 o g key u C D' hp hn hk hs w hN
  ·exact remove_leaf0 o g key C D hp hC hD hn hk hs w hN
 | succ h ih =>
  intro g w hk hs hpos hn hN
  have hsp : Sorted g.ps := pairs_sorted ((kids_iff o (h + 1) g).1 hk).1 (by rw [← flat_fl]; exact hs)
  obtain ⟨C, D, hp, _, hC, hD⟩ := split_at key g.ps hsp
  obtain ⟨A, k, B, hks, ha⟩ := kid_at hk hp
  rcases hD with ⟨u, D', rfl, _⟩ | hD
  ·exact remove_inner1 o h ho ho2 g k key u A B C D' hp hks ha hn hk hs w hN
  ·exact remove_inner0 o h ho ho2 g k key A B C D hp hks ha hC hD (hpos (by omega)) hn hk hs (fun k w h1 h2 h3 h4 h5 => ih k w h1 h2 (fun _ => h3) h4 h5) w hN
end Go.Proofs.YtecnijnmgdfdhaaGreat
