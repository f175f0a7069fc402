/- Joined: Tree5. -/
import Derived.Test.YtecnijnmgdfdhaaGreatYTreeA
import Derived.Deep.RegionHeld3
namespace Go.Proofs.YtecnijnmgdfdhaaGreat
open Go.RowKit Tr

theorem alD (w : World) (o : Obj) : Below w.drew.heap.size w.drew (w.alloc o).drew := ((Below.refl _ w.drew).alloc (Nat.le_refl _) o)
theorem leaf_raw (b : Nat) (ka : Option Addr) (n kc : Nat) (v : Bool) (hv : decide (n = 0) = v) (hn : n ≤ 1000000) (w : World) (c1 : w.cell? ⟨b, 1, none⟩ = some (.slice ka n kc)) :
  Calls Tryz.prog 100 #[ptrV b] w fun e w' => e = .returned (.bool v) ∧ w = w' := by
 have hb2 : ((n : Int) == 0) = v := by
  rw [← hv]; by_cases h0 : n = 0 <;> simp [h0]
 have hn1 : (n : Int) ≤ 1000000 := by omega
 have HB := Lib.hid hv
 clear hv
 go_enter Tryz.func100, Tryz.ntmps100
 go_wp2
 go_ret
 exact ⟨rfl, rfl⟩
theorem St.kid {w : World} {h : Nat} {g k : G} {A B : List G} (hn : Nd w (h + 1) g) (hks : g.ks = A ++ k :: B) : St w (foot (h + 1) g) w [k, g] (subsOf h k.ks ++ (A ++ B).map fun k => (h, k)) := by
 have h1 := St.begin_ hn
 have h2 : (subsOf (h + 1) g.ks).Perm ((h, k) :: (A ++ B).map fun k => (h, k)) := by
  show (g.ks.map fun k => (h, k)).Perm _
  rw [hks, List.map_append, List.map_cons, List.map_append]
  exact List.perm_middle
 exact (h1.perm (List.Perm.refl _) h2).open_
theorem Sl.cutTo {w : World} {size : Nat} {F : Foot} {b o n c : Nat} {xs : List Value} (h : Sl w size F (some ⟨b, o, none⟩) n c xs) (m : Nat) (hm : m ≤ n) : Sl w size (rng b o (m * size)) (some ⟨b, o, none⟩) m m (xs.take (m * size)) := by
 have e1 := Nat.mul_le_mul_right size hm
 have e2 := Nat.mul_le_mul_right size h.le
 refine ⟨by rw [List.length_take, h.len]; omega, Nat.le_refl _, by have := h.le; have := h.cap; omega, (fun h => by cases h), fun u hu => h.one u (List.mem_of_mem_take hu), fun x hx h0 => ?_⟩
 cases hx
 obtain ⟨b', o', e, g1, g2, g3⟩ := h.at_ _ rfl (by omega)
 cases e
 refine ⟨b, o, rfl, fun i hi => ⟨rfl, by omega, by omega⟩, fun i u hu => ?_, fun i hi => g3 i (by omega)⟩
 rw [List.getElem?_take] at hu
 split at hu
 ·exact g2 i u hu
 ·cases hu
theorem Sl.cutFrom {w : World} {size : Nat} {F : Foot} {b o n c : Nat} {xs : List Value} (h : Sl w size F (some ⟨b, o, none⟩) n c xs) (p : Nat) (hp : p ≤ n) : Sl w size (rng b (o + p * size) ((n - p) * size)) (some ⟨b, o + p * size, none⟩) (n - p) (n - p) (xs.drop (p * size)) := by
 have e1 := Nat.mul_le_mul_right size hp
 have e2 := Nat.mul_le_mul_right size h.le
 have e3 : (n - p) * size = n * size - p * size := Nat.sub_mul _ _ _
 refine ⟨by rw [List.length_drop, h.len]; omega, Nat.le_refl _, by have := h.le; have := h.cap; omega, (fun h => by cases h), fun u hu => h.one u (List.mem_of_mem_drop hu), fun x hx h0 => ?_⟩
 cases hx
 obtain ⟨b', o', e, g1, g2, g3⟩ := h.at_ _ rfl (by omega)
 cases e
 refine ⟨b, o + p * size, rfl, fun i hi => ⟨rfl, by omega, by omega⟩, fun i u hu => ?_, fun i hi => by rw [Nat.add_assoc]; exact g3 _ (by omega)⟩
 rw [List.getElem?_drop] at hu
 rw [Nat.add_assoc]
 exact g2 _ u hu
theorem Sl.rng_sub {w : World} {size : Nat} {F : Foot} {b o n c : Nat} {xs : List Value} (h : Sl w size F (some ⟨b, o, none⟩) n c xs) (p m : Nat) (hm : p + m ≤ n * size) : ∀ k i, rng b (o + p) m k i → F k i := by
 rintro k i ⟨rfl, h1, h2⟩
 have e2 := Nat.mul_le_mul_right size h.le
 obtain ⟨b', o', e, g1, _⟩ := h.at_ _ rfl (by omega)
 cases e
 have := g1 (i - o) (by omega)
 rwa [show o + (i - o) = i by omega] at this
theorem split_st {w0 w E : World} {F : Foot} {k : G} {T : List G} {U : List (Nat × G)} (hs : St w0 F w (k :: T) U) {pb po pc : Nat} {ka : Option Addr} {kc : Nat} (ht : Top w k (some ⟨pb, po, none⟩) pc ka kc) {X Y : List Pr} {m : Pr} (hkp : k.ps = X ++ m :: Y) {o nk : Nat} (ho : X.length + 1 = o) (hnk : k.ps.length = nk) (hX : 0 < X.length) (hY : 0 < Y.length)
  {KX KY : List G} {Fl Fr' : Foot} {la ra : Option Addr} {lc rc : Nat} (hl : Sl w 1 Fl la KX.length lc (kidsV KX)) (hr : Sl w 1 Fr' ra KY.length rc (kidsV KY)) (hls : ∀ b o, Fl b o → k.Fk b o) (hrs : ∀ b o, Fr' b o → k.Fk b o) (hlr : Apart Fl Fr')
  {R : Nat} (hR : w.heap.size ≤ R) (_hRE : R < E.heap.size) (hf : Fr (fun b _ => b = k.b) w E) (e0 : E.cell? ⟨k.b, 0, none⟩ = some (.slice (some ⟨pb, po, none⟩) (o - 1) (o - 1))) (e1 : E.cell? ⟨k.b, 1, none⟩ = some (.slice la KX.length lc)) (e2 : E.frozen? ⟨k.b, 0, none⟩ = false) (e3 : E.frozen? ⟨k.b, 1, none⟩ = false)
  (r0 : E.cell? ⟨R, 0, none⟩ = some (.slice (some ⟨pb, po + o * 2, none⟩) (nk - o) (nk - o))) (r1 : E.cell? ⟨R, 1, none⟩ = some (.slice ra KY.length rc)) (r2 : E.frozen? ⟨R, 0, none⟩ = false) (r3 : E.frozen? ⟨R, 1, none⟩ = false) :
  St w0 F E (.mk k.b (rng pb po ((o - 1) * 2)) Fl X KX :: .mk R (rng pb (po + o * 2) ((nk - o) * 2)) Fr' Y KY :: T) U := by
 have hkl : nk = X.length + 1 + Y.length := by rw [← hnk, hkp]; simp; omega
 have hXo : X.length = o - 1 := by omega
 have hYo : Y.length = nk - o := by omega
 have hsp := ht.sp
 rw [hnk] at hsp
 have s1 := hsp.cutTo (o - 1) (by omega)
 have s2 := hsp.cutFrom o (by omega)
 have q1 : (pairsV k.ps).take ((o - 1) * 2) = pairsV X := by rw [pairsV_take, hkp, ← hXo]; simp
 have q2 : (pairsV k.ps).drop (o * 2) = pairsV Y := by
  rw [pairsV_drop, hkp, ← ho, show X.length + 1 = (X ++ [m]).length by simp, show X ++ m :: Y = (X ++ [m]) ++ Y by simp, List.drop_left]
 rw [q1] at s1
 rw [q2] at s2
 have g1 : ∀ b i, rng pb po ((o - 1) * 2) b i → k.Fp b i := by
  have := hsp.rng_sub 0 ((o - 1) * 2) (by omega)
  rwa [Nat.add_zero] at this
 have g2 : ∀ b i, rng pb (po + o * 2) ((nk - o) * 2) b i → k.Fp b i := hsp.rng_sub (o * 2) ((nk - o) * 2) (by omega)
 have np : ∀ b i, k.Fp b i → ¬ b = k.b := fun b i h e => by subst e; exact ht.bp i h
 have nk' : ∀ b i, k.Fk b i → ¬ b = k.b := fun b i h e => by subst e; exact ht.bk i h
 have hk : k.b < w.heap.size := block_of_cell ht.c0
 have lp : ∀ b i, k.Fp b i → b < R := fun b i h => by have := ht.lp b i h; omega
 have lk : ∀ b i, k.Fk b i → b < R := fun b i h => by have := ht.lk b i h; omega
 refine St.step (K := [k]) (K' := [.mk k.b (rng pb po ((o - 1) * 2)) Fl X KX, .mk R (rng pb (po + o * 2) ((nk - o) * 2)) Fr' Y KY]) hs hf (fun b _ e => .inl ⟨k, by simp, .inl e⟩) (fun t htm => ?_) ?_ (fun t htm b i hb => ?_)
 ·simp only [List.mem_cons, List.not_mem_nil, or_false] at htm
  rcases htm with rfl | rfl
  ·refine ⟨_, _, _, _, by rw [show G.ps (.mk k.b (rng pb po ((o - 1) * 2)) Fl X KX) = X from rfl, hXo]; exact e0, e1, e2, e3, ?_, hl.fr hf (fun b i h => nk' b i (hls b i h)), fun b i h1 h2 => ht.ap b i (g1 b i h1) (hls b i h2), fun i h => ht.bp i (g1 _ i h), fun i h => ht.bk i (hls _ i h), fun b i h => hf.lt (ht.lp b i (g1 b i h)), fun b i h => hf.lt (ht.lk b i (hls b i h))⟩
   rw [show G.ps (.mk k.b (rng pb po ((o - 1) * 2)) Fl X KX) = X from rfl, hXo]
   exact s1.fr hf (fun b i h => np b i (g1 b i h))
  ·refine ⟨_, _, _, _, by rw [show G.ps (.mk R (rng pb (po + o * 2) ((nk - o) * 2)) Fr' Y KY) = Y from rfl, hYo]; exact r0, r1, r2, r3, ?_, hr.fr hf (fun b i h => nk' b i (hrs b i h)), fun b i h1 h2 => ht.ap b i (g2 b i h1) (hrs b i h2), fun i h => Nat.lt_irrefl _ (lp _ i (g2 _ i h)), fun i h => Nat.lt_irrefl _ (lk _ i (hrs _ i h)), fun b i h => hf.lt (ht.lp b i (g2 b i h)), fun b i h => hf.lt (ht.lk b i (hrs b i h))⟩
   rw [show G.ps (.mk R (rng pb (po + o * 2) ((nk - o) * 2)) Fr' Y KY) = Y from rfl, hYo]
   exact s2.fr hf (fun b i h => np b i (g2 b i h))
 ·refine List.pairwise_cons.2 ⟨fun f hf' b i h1 h2 => ?_, List.pairwise_singleton _ _⟩
  simp only [List.map_cons, List.map_nil, List.mem_cons, List.not_mem_nil, or_false] at hf'
  subst hf'
  rcases h1 with h1 | h1 | h1
  ·have h1 : b = k.b := h1
   rcases h2 with h2 | h2 | h2
   ·have h2 : b = R := h2; omega
   ·exact np b i (g2 b i h2) h1
   ·exact nk' b i (hrs b i h2) h1
  ·have h1 : rng pb po ((o - 1) * 2) b i := h1
   rcases h2 with h2 | h2 | h2
   ·have h2 : b = R := h2; have := lp b i (g1 b i h1); omega
   ·have h2 : rng pb (po + o * 2) ((nk - o) * 2) b i := h2
    obtain ⟨_, a1, a2⟩ := h1
    obtain ⟨_, b1, b2⟩ := h2
    omega
   ·exact ht.ap b i (g1 b i h1) (hrs b i h2)
  ·have h1 : Fl b i := h1
   rcases h2 with h2 | h2 | h2
   ·have h2 : b = R := h2; have := lk b i (hls b i h1); omega
   ·exact ht.ap b i (g2 b i h2) (hls b i h1)
   ·exact hlr b i h1 h2
 ·simp only [List.mem_cons, List.not_mem_nil, or_false] at htm
  rcases htm with rfl | rfl
  ·rcases hb with hb | hb | hb
   ·exact .inl ⟨k, by simp, .inl hb⟩
   ·exact .inl ⟨k, by simp, .inr (.inl (g1 b i hb))⟩
   ·exact .inl ⟨k, by simp, .inr (.inr (hls b i hb))⟩
  ·rcases hb with hb | hb | hb
   ·have hb : b = R := hb; exact .inr (by omega)
   ·exact .inl ⟨k, by simp, .inr (.inl (g2 b i hb))⟩
   ·exact .inl ⟨k, by simp, .inr (.inr (hrs b i hb))⟩
theorem St.two_close {w0 W : World} {F : Foot} {h : Nat} {g' l r : G} {A B KX KY : List G} (hl : l.ks = KX) (hr : r.ks = KY) (hg : g'.ks = A ++ l :: r :: B) (hs : St w0 F W [g', l, r] (subsOf h (KX ++ KY) ++ (A ++ B).map fun k => (h, k))) :
  Nd W (h + 1) g' ∧ Fr F w0 W ∧ Grew w0 F (foot (h + 1) g') := by
 subst hl hr
 refine St.close_ ?_
 have h1 : St w0 F W [l, r, g'] (subsOf h l.ks ++ (subsOf h r.ks ++ (A ++ B).map fun k => (h, k))) := by
  rw [subsOf_append, List.append_assoc] at hs
  exact hs.perm (by simpa using (List.perm_append_comm (l₁ := [g']) (l₂ := [l, r]))) (List.Perm.refl _)
 have h2 := (h1.shut_).perm (List.Perm.refl _) (show ((h, l) :: (subsOf h r.ks ++ (A ++ B).map fun k => (h, k))).Perm (subsOf h r.ks ++ ((h, l) :: (A ++ B).map fun k => (h, k))) from List.perm_middle.symm)
 refine h2.shut_.perm (List.Perm.refl _) ?_
 show List.Perm _ (g'.ks.map fun k => (h, k))
 rw [hg, List.map_append, List.map_append, List.map_cons, List.map_cons]
 refine ((List.Perm.swap _ _ _).trans ?_)
 refine List.Perm.trans ?_ List.perm_middle.symm
 exact List.Perm.cons _ List.perm_middle.symm
theorem insert_node_z (z : Int) (F : Foot) (a : Option Addr) (n c i : Nat) (hz : z = (i : Int)) (xs : List Value) (vb : Nat) (vs : List Value) (hv : vs.length = 1) (hn : n ≤ 1000000) (hi : i ≤ n) (w : World) (h : Sl w 1 F a n c xs) (hl : Lies w F) (hA : Arg w vb vs) (hF : ∀ o, ¬ F vb o) :
  Calls Tryz.prog 127 #[.slice a n c, .int .i64 z, .slice (some ⟨vb, 0, none⟩) 1 1] w (GivesI_node w F n (xs.take i ++ (vs ++ xs.drop i))) := by
 subst hz
 exact insert_node F a n c i xs vb vs hv hn hi w h hl hA hF
theorem alE (w : World) (o : Obj) : Below w.heap.size w (w.alloc o).drew := ((Below.refl _ w).alloc (Nat.le_refl _) o).drew
theorem al1 (w : World) (o : Obj) : Below w.heap.size w (w.alloc o) := (Below.refl _ w).alloc (Nat.le_refl _) o
theorem ins_pairs (C D : List Pr) (m : Pr) : (pairsV (C ++ D)).take (C.length * 2) ++ ([.string ⟨m.1.toArray⟩, .string ⟨m.2.toArray⟩] ++ (pairsV (C ++ D)).drop (C.length * 2)) = pairsV (C ++ m :: D) := by
 rw [pairsV_take, pairsV_drop, List.take_left, List.drop_left, pairsV_append, pairsV_cons]; rfl
theorem ins_kids (A B : List G) (b : Nat) (r : G) (hr : r.b = b) : (kidsV (A ++ B)).take A.length ++ ([.pointer (some ⟨b, 0, none⟩)] ++ (kidsV (A ++ B)).drop A.length) = kidsV (A ++ r :: B) := by
 subst hr
 rw [kidsV_take, kidsV_drop, List.take_left, List.drop_left, kidsV_append]; rfl
theorem insP {w0 w W V : World} {F : Foot} {g : G} {T : List G} {U : List (Nat × G)} (hs : St w0 F w (g :: T) U) {pa : Option Addr} {pc : Nat} {ka : Option Addr} {kc : Nat} (ht : Top w g pa pc ka kc) (hb : Below w.heap.size w W)
  {F1 : Foot} {a1 : Option Addr} {n1 c1 : Nat} {ps1 : List Pr} (hn : ps1.length = n1) (hsl : Sl V 2 F1 a1 n1 c1 (pairsV ps1)) (hfr : Fr g.Fp W V) (hgr : Grew W g.Fp F1) (hli : Lies V F1) :
  St w0 F (V.setCell ⟨g.b, 0, none⟩ (.slice a1 n1 c1)) (.mk g.b F1 g.Fk ps1 g.ks :: T) U ∧ Top (V.setCell ⟨g.b, 0, none⟩ (.slice a1 n1 c1)) (.mk g.b F1 g.Fk ps1 g.ks) a1 c1 ka kc := by
 have f1 : Fr g.Fp w V := (Fr.ofBelow hb _).trans hfr (fun _ _ h => .inl h)
 obtain ⟨h1, h2, h3⟩ := ht.setP f1 (fun _ _ h => .inl h) hn hsl (fun b o h => (hgr b o h).imp id (fun h => by have := hb.size; omega)) hli
 exact ⟨hs.one h2 (fun _ _ h => .inl h) ⟨_, _, _, _, h1⟩ h3, h1⟩
theorem insK {w0 w W V : World} {F : Foot} {g : G} {T : List G} {U : List (Nat × G)} (hs : St w0 F w (g :: T) U) {pa : Option Addr} {pc : Nat} {ka : Option Addr} {kc : Nat} (ht : Top w g pa pc ka kc) (hb : Below w.heap.size w W)
  {F1 : Foot} {a1 : Option Addr} {n1 c1 : Nat} {ks1 : List G} (hn : ks1.length = n1) (hsl : Sl V 1 F1 a1 n1 c1 (kidsV ks1)) (hfr : Fr g.Fk W V) (hgr : Grew W g.Fk F1) (hli : Lies V F1) :
  St w0 F (V.setCell ⟨g.b, 1, none⟩ (.slice a1 n1 c1)) (.mk g.b g.Fp F1 g.ps ks1 :: T) U ∧ Top (V.setCell ⟨g.b, 1, none⟩ (.slice a1 n1 c1)) (.mk g.b g.Fp F1 g.ps ks1) pa pc a1 c1 := by
 have f1 : Fr g.Fk w V := (Fr.ofBelow hb _).trans hfr (fun _ _ h => .inl h)
 obtain ⟨h1, h2, h3⟩ := ht.setK f1 (fun _ _ h => .inl h) hn hsl (fun b o h => (hgr b o h).imp id (fun h => by have := hb.size; omega)) hli
 exact ⟨hs.one h2 (fun _ _ h => .inl h) ⟨_, _, _, _, h1⟩ h3, h1⟩
def SplitTo (w : World) (h : Nat) (g : G) (A B : List G) (C D X Y : List Pr) (m : Pr) (KX KY : List G) (e : Ending) (w' : World) : Prop := e = .returned (.tuple #[]) ∧
   ∃ l r g' : G, g'.b = g.b ∧ g'.ps = C ++ m :: D ∧ g'.ks = A ++ l :: r :: B ∧ l.ps = X ∧ l.ks = KX ∧ r.ps = Y ∧ r.ks = KY ∧ Nd w' (h + 1) g' ∧ Fr (foot (h + 1) g) w w' ∧ Grew w (foot (h + 1) g) (foot (h + 1) g')
set_option maxHeartbeats 4000000 in
set_option maxRecDepth 100000 in
theorem split_leaf (h : Nat) (g k : G) (A B : List G) (C D X Y : List Pr) (m : Pr) (o : Nat) (ho : X.length + 1 = o) (hX : 0 < X.length) (hY : 0 < Y.length) (hl1 : k.ps.length ≤ 1000) (hl2 : g.ps.length ≤ 1000) (hl3 : g.ks.length ≤ 1000)
  (hps : g.ps = C ++ D) (hks : g.ks = A ++ k :: B) (ha : A.length = C.length) (hkp : k.ps = X ++ m :: Y) (hkk : k.ks = []) (w : World) (hn : Nd w (h + 1) g) :
  Calls Tryz.prog 95 #[ptrV g.b, .int .i64 C.length, .int .i64 o] w (SplitTo w h g A B C D X Y m [] []) := by
 have hS := St.kid hn hks
 obtain ⟨pa, pc, ka, kc, htk⟩ := hS.top k (by simp)
 obtain ⟨qa, qc, ga, gc, htg⟩ := hS.top g (by simp)
 have hkm : g.ks[C.length]? = some k := by rw [hks, ← ha]; simp
 have hmm : k.ps[X.length]? = some m := by rw [hkp]; simp
 obtain ⟨gb, go_, rfl, gk1, gk2⟩ := htg.kid hkm
 obtain ⟨pb, po, rfl, pm1, pm2, _⟩ := htk.pair hmm
 have c0 := htk.c0
 have c1 := htk.c1
 have d0 := htg.c0
 have d1 := htg.c1
 have hf0 := htk.f0
 have hkl : k.ps.length = X.length + 1 + Y.length := by rw [hkp]; simp; omega
 have hkb : k.b < w.heap.size := block_of_cell c0
 have hgb : g.b < w.heap.size := block_of_cell d0
 have hpb : pb < w.heap.size := block_of_cell pm1
 have hgbb : gb < w.heap.size := block_of_cell gk1
 have hgk : g.b ≠ k.b := fun e => (List.pairwise_cons.1 hS.sep).1 (topF g) (by simp) k.b 0 (.inl rfl) (.inl e.symm)
 have hgl : g.ks.length = A.length + 1 + B.length := by rw [hks]; simp; omega
 have hpc := htk.sp.le
 have hpc2 := htk.sp.cap
 rw [hkk, List.length_nil] at c1
 rw [show X.length = o - 1 by omega] at pm1 pm2
 have HTK := Lib.hid htk
 have HTG := Lib.hid htg
 have HS := Lib.hid hS
 have HQ := Lib.hid (And.intro hps (And.intro hks (And.intro ha (And.intro hkp hkk))))
 clear hn htk htg hS hkm hmm hps hks hkp hkk
 obtain ⟨nk, hnk⟩ : ∃ nk, k.ps.length = nk := ⟨_, rfl⟩
 obtain ⟨np, hnp⟩ : ∃ np, g.ps.length = np := ⟨_, rfl⟩
 obtain ⟨ng, hng⟩ : ∃ ng, g.ks.length = ng := ⟨_, rfl⟩
 obtain ⟨i, hi⟩ : ∃ i, C.length = i := ⟨_, rfl⟩
 rw [hnk] at c0 hl1 hkl hpc
 rw [hnp] at d0 hl2
 rw [hng] at d1 hl3 hgl
 rw [hi] at gk1 gk2 ha
 have hi0 : (0 : Int) ≤ (i : Int) := by omega
 have hi1 : (i : Int) < (ng : Int) := by omega
 have ho2 : 2 ≤ (o : Int) := by omega
 have ho3 : (o : Int) + 1 ≤ (nk : Int) := by omega
 have hnk2 : (nk : Int) ≤ 1000 := by omega
 have hnk3 : (nk : Int) ≤ (pc : Int) := by omega
 have hne : ¬ (nk - o = 0) := by omega
 have HN := Lib.hid (And.intro hnk (And.intro hnp (And.intro hng (And.intro hi (And.intro ho (And.intro ha (And.intro hkl hgl)))))))
 rw [hi]
 have HLF : Hid (Calls Tryz.prog 100 #[ptrV k.b] (((w.setCell ⟨k.b, 0, none⟩ (.slice (some ⟨pb, po, none⟩) (o - 1) (o - 1))).alloc (.cells #[.string ⟨m.1.toArray⟩, .string ⟨m.2.toArray⟩] 168)).alloc (.cells #[.slice (some ⟨pb, po + o * 2, none⟩) (nk - o) (nk - o), .slice none 0 0] 172)) fun e W => e = .returned (.bool true) ∧ ∃ l r : G, l.b = k.b ∧ l.ps = X ∧ l.ks = [] ∧ r.b = w.heap.size + 1 ∧ r.ps = Y ∧ r.ks = [] ∧ Hid (St w (foot (h + 1) g) W [l, r, g] (subsOf h k.ks ++ (A ++ B).map fun k => (h, k))) ∧ Hid (Top W g qa qc (some ⟨gb, go_, none⟩) gc) ∧ W.cell? ⟨w.heap.size, 0, none⟩ = some (.string ⟨m.1.toArray⟩) ∧ W.cell? ⟨w.heap.size, 1, none⟩ = some (.string ⟨m.2.toArray⟩)) := Lib.hid (by
  refine (leaf_raw k.b ka 0 kc true rfl (by omega) _ ?_).mono ?_
  ·go_simp
  ·rintro e W ⟨rfl, rfl⟩
   refine ⟨rfl, .mk k.b (rng pb po ((o - 1) * 2)) k.Fk X [], .mk (w.heap.size + 1) (rng pb (po + o * 2) ((nk - o) * 2)) noCells Y [], rfl, rfl, rfl, rfl, rfl, rfl, Lib.hid ?_, Lib.hid ?_, ?_, ?_⟩
   ·refine split_st (KX := []) (KY := []) HS.out HTK.out HQ.out.2.2.2.1 ho hnk hX hY (Fl := k.Fk) (Fr' := noCells) (la := ka) (lc := kc) (ra := none) (rc := 0) (by have := HTK.out.sk; rw [HQ.out.2.2.2.2] at this; exact this) (Sl.none_ _ 1) (fun _ _ h => h) (fun _ _ h => h.elim) (fun _ _ _ h => h.elim) (by omega) (by simp) ?_ ?_ ?_ ?_ ?_ ?_ ?_ ?_ ?_
    ·exact ((fr_cell w k.b 0 _).alloc _).alloc _
    all_goals (have hf1 := HTK.out.f1; clear hnk hnp hng hi ho ha hkl hgl; go_simp)
   ·exact HTG.out.fr (((fr_cell w k.b 0 _).alloc _).alloc _) (fun b x hg e => by subst e; exact (List.pairwise_cons.1 HS.out.sep).1 (topF g) (by simp) k.b x (.inl rfl) hg)
   ·go_simp
   ·go_simp)
 clear hnk hnp hng hi ho ha hkl hgl
 go_enter Tryz.func95, Tryz.ntmps95
 go_wp2_with (go_at_call 100; refine HLF.out.mono ?_; rintro e W ⟨rfl, l, r, hl1, hl2, hl3, hr1, hr2, hr3, HS1, HT1, m0, m1⟩)
 obtain ⟨M, hM⟩ : ∃ M, w.heap.size = M := ⟨_, rfl⟩
 have HM := Lib.hid hM
 rw [hM] at m0 m1
 have hMW : M < W.heap.size := block_of_cell m0
 have hgbW : g.b < W.heap.size := block_of_cell HT1.out.c0
 have hgM : g.b ≠ M := by omega
 have e0 := HT1.out.c0
 rw [HN.out.2.1] at e0
 have HI : Hid (Calls Tryz.prog 126 #[.slice qa np qc, .int .i64 i, .slice (some ⟨W.heap.size, 0, none⟩) 1 1] ((W.alloc (.cells #[.string ⟨m.1.toArray⟩, .string ⟨m.2.toArray⟩] 168)).drew) fun e V => ∃ a1 c1 F1, e = .returned (.slice a1 (np + 1) c1) ∧ V.cell? ⟨g.b, 0, none⟩ = some (.slice qa np qc) ∧ V.frozen? ⟨g.b, 0, none⟩ = false ∧ V.cell? ⟨M, 0, none⟩ = some (.string ⟨m.1.toArray⟩) ∧ V.cell? ⟨M, 1, none⟩ = some (.string ⟨m.2.toArray⟩) ∧ Hid (St w (foot (h + 1) g) (V.setCell ⟨g.b, 0, none⟩ (.slice a1 (np + 1) c1)) (.mk g.b F1 g.Fk (C ++ m :: D) g.ks :: [l, r]) (subsOf h k.ks ++ (A ++ B).map fun k => (h, k)) ∧ Top (V.setCell ⟨g.b, 0, none⟩ (.slice a1 (np + 1) c1)) (.mk g.b F1 g.Fk (C ++ m :: D) g.ks) a1 c1 (some ⟨gb, go_, none⟩) gc)) := Lib.hid (by
  have fA := alE W (.cells #[.string ⟨m.1.toArray⟩, .string ⟨m.2.toArray⟩] 168)
  have hsp := HT1.out.sp
  rw [HN.out.2.1] at hsp
  refine (insert_pair g.Fp qa np qc i (pairsV g.ps) W.heap.size [.string ⟨m.1.toArray⟩, .string ⟨m.2.toArray⟩] rfl (by omega) (by rw [← HN.out.2.1, ← HN.out.2.2.2.1, HQ.out.1]; simp) _ (hsp.fr (Fr.ofBelow fA noCells) (fun _ _ _ h => h)) (HT1.out.lp.later (Fr.ofBelow fA noCells)) ((Arg.made W [.string ⟨m.1.toArray⟩, .string ⟨m.2.toArray⟩] 168 (by intro u hu; simp only [List.mem_cons, List.not_mem_nil, or_false] at hu; rcases hu with rfl | rfl <;> rfl)).block rfl) (fun x hx => Nat.lt_irrefl _ (HT1.out.lp _ _ hx))).mono ?_
  rintro e V ⟨a', c', F', rfl, hsl, hfr, hgr, hli⟩
  have fW : Fr g.Fp W V := (Fr.ofBelow fA _).trans hfr (fun _ _ h => .inl h)
  have nM : ∀ x, ¬ g.Fp M x := fun x hx => by have := HTG.out.lp _ _ hx; omega
  have hpv : (pairsV g.ps).take (i * 2) ++ ([.string ⟨m.1.toArray⟩, .string ⟨m.2.toArray⟩] ++ (pairsV g.ps).drop (i * 2)) = pairsV (C ++ m :: D) := by rw [HQ.out.1, ← HN.out.2.2.2.1]; exact ins_pairs C D m
  rw [hpv] at hsl
  have hlen : (C ++ m :: D).length = np + 1 := by rw [← HN.out.2.1, HQ.out.1]; simp; omega
  exact ⟨a', c', F', rfl, (fW.cell g.b 0 hgbW (HT1.out.bp 0)).trans e0, (fW.froz g.b 0 hgbW (HT1.out.bp 0)).trans HT1.out.f0, (fW.cell M 0 hMW (nM 0)).trans m0, (fW.cell M 1 hMW (nM 1)).trans m1,
   Lib.hid (insP (HS1.out.perm (by simpa using (List.perm_append_comm (l₁ := [l, r]) (l₂ := [g]))) (List.Perm.refl _)) HT1.out fA hlen hsl hfr hgr hli)⟩)
 clear hM
 rw [HM.out]
 refine wp_region_till 11 (fun V => (V.cell? ⟨M, 0, none⟩ = some (.string ⟨m.1.toArray⟩) ∧ V.cell? ⟨M, 1, none⟩ = some (.string ⟨m.2.toArray⟩)) ∧ V.cell? ⟨g.b, 0, none⟩ = some (.slice qa np qc)) (by kernel_rfl) (⟨⟨m0, m1⟩, e0⟩) (fun hH => ?_)
 refine zzU (i := 0) (v := ?v0) rfl (by kernel_rfl) (fun _ _ _ h => h) rfl ?h0 hH ?r0
 case h0 => (intro W h; (try dsimp only at h); go_simp; all_goals (with_reducible rfl))
 try simp only [zzA, zzC, Act.put, zzD, zzE, zzF]
 refine zzU (i := 1) (v := ?v1) rfl (by kernel_rfl) (fun _ _ _ h => h) rfl ?h1 hH ?r1
 case h1 => (intro W h; (try dsimp only at h); go_simp; all_goals (with_reducible rfl))
 try simp only [zzA, zzB, zzC, Act.put, zzD, zzE, zzF]
 refine zzU (i := 2) (v := ?v2) rfl (by kernel_rfl) (fun _ _ _ h => h) rfl ?h2 hH ?r2
 case h2 => (intro W h; (try dsimp only at h); go_simp; all_goals (with_reducible rfl))
 try simp only [zzA, zzB, zzC, Act.put, zzD, zzE, zzF]
 refine zzU (i := 3) (v := ?v3) rfl (by kernel_rfl) (fun _ _ _ h => h) rfl ?h3 hH ?r3
 case h3 => (intro W h; (try dsimp only at h); go_simp; all_goals (with_reducible rfl))
 try simp only [zzA, zzB, zzC, Act.put, zzD, zzE, zzF]
 refine zzU (i := 4) (v := ?v4) rfl (by kernel_rfl) (fun _ _ _ h => h) rfl ?h4 hH ?r4
 case h4 => (intro W h; (try dsimp only at h); go_simp; all_goals (with_reducible rfl))
 try simp only [zzA, zzB, zzC, Act.put, zzD, zzE, zzF]
 refine zzU (i := 5) (v := ?v5) rfl (by kernel_rfl) (fun _ _ _ h => h) rfl ?h5 hH ?r5
 case h5 => (intro W h; (try dsimp only at h); go_simp; all_goals (with_reducible rfl))
 try simp only [zzA, zzB, zzC, Act.put, zzD, zzE, zzF]
 refine zzU (i := 6) (v := ?v6) rfl (by kernel_rfl) (fun _ _ _ h => h) rfl ?h6 hH ?r6
 case h6 => (intro W h; (try dsimp only at h); go_simp; all_goals (with_reducible rfl))
 try simp only [zzA, zzB, zzC, Act.put, zzD, zzE, zzF]
 refine wpTill_one (i := 7) (by kernel_rfl) rfl rfl (fun K hK => ?_)
 go_simp
 have hH2 := And.intro (And.intro (old_cell hH.1.1 (alD W (.cells #[.string ⟨m.1.toArray⟩, .string ⟨m.2.toArray⟩] 168))) (old_cell hH.1.2 (alD W (.cells #[.string ⟨m.1.toArray⟩, .string ⟨m.2.toArray⟩] 168)))) (old_cell hH.2 (alD W (.cells #[.string ⟨m.1.toArray⟩, .string ⟨m.2.toArray⟩] 168)))
 refine hK.out _ _ (fun _ => hH2) ?_
 clear hK K hH; have hH := hH2; clear hH2
 try simp only [zzA, zzB, zzC, Act.put, zzD, zzE, zzF]
 refine wpTill_one (i := 8) (by kernel_rfl) rfl rfl (fun K hK => ?_)
 go_simp
 (go_at_call 126; refine HI.out.mono ?_; rintro e V ⟨a1, c1, F1, rfl, v0, v1, v2, v3, HS2⟩)
 have hH2 := And.intro (And.intro v2 v3) v0
 refine hK.out _ _ (fun _ => hH2) ?_
 clear hK K hH; have hH := hH2; clear hH2
 try simp only [zzA, zzB, zzC, Act.put, zzD, zzE, zzF]
 refine wpTill_one (i := 9) (by kernel_rfl) rfl rfl (fun K hK => ?_)
 go_simp
 refine hK.out _ _ (fun _ => hH) ?_
 clear hK K
 try simp only [zzA, zzB, zzC, Act.put, zzD, zzE, zzF]
 refine wpTill_one (i := 10) (by kernel_rfl) rfl rfl (fun K hK => ?_)
 go_simp
 refine hK.out _ _ (fun _ => hH) ?_
 clear hK K
 try simp only [zzA, zzB, zzC, Act.put, zzD, zzE, zzF]
 refine wpTill_one (i := 11) (by kernel_rfl) rfl rfl (fun K hK => ?_)
 go_simp
 refine hK.out _ _ (fun h => absurd rfl h) ?_
 clear hK K
 try simp only [zzA, zzB, zzC, Act.put, zzD, zzE, zzF]
 refine wpTill_done (by kernel_rfl) ?_ _
 clear v0 v1 v2 v3 hH HI m0 m1 e0
 generalize V.setCell ⟨g.b, 0, none⟩ (.slice a1 (np + 1) c1) = W5 at *
 have e1 : W5.cell? ⟨g.b, 1, none⟩ = some (.slice (some ⟨gb, go_, none⟩) ng gc) := by rw [← HN.out.2.2.1]; exact HS2.out.2.c1
 have HI2 : Hid (Calls Tryz.prog 127 #[.slice (some ⟨gb, go_, none⟩) ng gc, .int .i64 ((i : Int) + 1), .slice (some ⟨W5.heap.size, 0, none⟩) 1 1] (W5.alloc (.cells #[.pointer (some ⟨M + 1, 0, none⟩)] 152)) fun e V => ∃ a2 c2, e = .returned (.slice a2 (ng + 1) c2) ∧ V.cell? ⟨g.b, 1, none⟩ = some (.slice (some ⟨gb, go_, none⟩) ng gc) ∧ V.frozen? ⟨g.b, 1, none⟩ = false ∧ Hid (SplitTo w h g A B C D X Y m [] [] (.returned (.tuple #[])) (V.setCell ⟨g.b, 1, none⟩ (.slice a2 (ng + 1) c2)))) := Lib.hid (by
  have fA := al1 W5 (.cells #[.pointer (some ⟨M + 1, 0, none⟩)] 152)
  have ht := HS2.out.2
  have hbk : ∀ x, ¬ g.Fk g.b x := ht.bk
  have hgb5 : g.b < W5.heap.size := block_of_cell e1
  have hA1 : A.length + 1 = i + 1 := by rw [HN.out.2.2.2.2.2.1]
  have hkl : g.ks = A ++ l :: B ∨ True := .inr trivial
  refine (insert_node_z ((i : Int) + 1) g.Fk (some ⟨gb, go_, none⟩) ng gc (i + 1) (by omega) (kidsV g.ks) W5.heap.size [.pointer (some ⟨M + 1, 0, none⟩)] rfl (by omega) (by rw [← HN.out.2.2.1, HQ.out.2.1, ← HN.out.2.2.2.2.2.1]; simp) _ ((show Sl W5 1 g.Fk (some ⟨gb, go_, none⟩) ng gc (kidsV g.ks) by rw [← HN.out.2.2.1]; exact ht.sk).fr (Fr.ofBelow fA noCells) (fun _ _ _ h => h)) ((show Lies W5 g.Fk from ht.lk).later (Fr.ofBelow fA noCells)) (Arg.made W5 [.pointer (some ⟨M + 1, 0, none⟩)] 152 (by intro u hu; simp only [List.mem_cons, List.not_mem_nil, or_false] at hu; subst hu; rfl)) (fun x hx => Nat.lt_irrefl _ (ht.lk _ _ hx))).mono ?_
  rintro e V2 ⟨a', c', F', rfl, hsl, hfr, hgr, hli⟩
  have fW : Fr g.Fk W5 V2 := (Fr.ofBelow fA _).trans hfr (fun _ _ h => .inl h)
  have hks : kidsV g.ks = kidsV ((A ++ [l]) ++ B) := by rw [HQ.out.2.1]; simp [kidsV, hl1]
  have hpv : (kidsV g.ks).take (i + 1) ++ ([.pointer (some ⟨M + 1, 0, none⟩)] ++ (kidsV g.ks).drop (i + 1)) = kidsV (A ++ l :: r :: B) := by
   rw [hks, show i + 1 = (A ++ [l]).length by rw [List.length_append]; exact hA1.symm]
   have := ins_kids (A ++ [l]) B (M + 1) r (by rw [hr1, HM.out])
   rw [this]; simp
  rw [hpv] at hsl
  have hlen : (A ++ l :: r :: B).length = ng + 1 := by rw [← HN.out.2.2.1, HQ.out.2.1]; simp; omega
  obtain ⟨hs3, _⟩ := insK (g := .mk g.b F1 g.Fk (C ++ m :: D) g.ks) HS2.out.1 ht fA hlen hsl hfr hgr hli
  have hs4 : St w (foot (h + 1) g) (V2.setCell ⟨g.b, 1, none⟩ (.slice a' (ng + 1) c')) [.mk g.b F1 F' (C ++ m :: D) (A ++ l :: r :: B), l, r] (subsOf h ([] ++ []) ++ (A ++ B).map fun k => (h, k)) := by
   have := HQ.out.2.2.2.2
   rw [this] at hs3
   exact hs3
  obtain ⟨n1, n2, n3⟩ := St.two_close hl3 hr3 rfl hs4
  exact ⟨a', c', rfl, (fW.cell g.b 1 hgb5 (hbk 1)).trans e1, (fW.froz g.b 1 hgb5 (hbk 1)).trans ht.f1, Lib.hid ⟨rfl, l, r, .mk g.b F1 F' (C ++ m :: D) (A ++ l :: r :: B), rfl, rfl, rfl, hl2, hl3, hr2, hr3, n1, n2, n3⟩⟩)
 go_wp2_with (go_at_call 127; refine HI2.out.mono ?_; rintro e V2 ⟨a2, c2, rfl, u0, u1, HE⟩)
 go_end0
 exact HE.out
set_option maxHeartbeats 4000000 in
set_option maxRecDepth 100000 in
theorem split_node (h : Nat) (g k : G) (A B : List G) (C D X Y : List Pr) (m : Pr) (o : Nat) (ho : X.length + 1 = o) (hX : 0 < X.length) (hY : 0 < Y.length) (hl1 : k.ps.length ≤ 1000) (hl2 : g.ps.length ≤ 1000) (hl3 : g.ks.length ≤ 1000)
  (hps : g.ps = C ++ D) (hks : g.ks = A ++ k :: B) (ha : A.length = C.length) (hkp : k.ps = X ++ m :: Y) (KX KY : List G) (hkk : k.ks = KX ++ KY) (hKX : KX.length = o) (hKY : KY.length = Y.length + 1) (w : World) (hn : Nd w (h + 1) g) :
  Calls Tryz.prog 95 #[ptrV g.b, .int .i64 C.length, .int .i64 o] w (SplitTo w h g A B C D X Y m KX KY) := by
 have hS := St.kid hn hks
 obtain ⟨pa, pc, ka, kc, htk⟩ := hS.top k (by simp)
 obtain ⟨qa, qc, ga, gc, htg⟩ := hS.top g (by simp)
 have hkm : g.ks[C.length]? = some k := by rw [hks, ← ha]; simp
 have hmm : k.ps[X.length]? = some m := by rw [hkp]; simp
 obtain ⟨gb, go_, rfl, gk1, gk2⟩ := htg.kid hkm
 obtain ⟨pb, po, rfl, pm1, pm2, _⟩ := htk.pair hmm
 have c0 := htk.c0
 have c1 := htk.c1
 have d0 := htg.c0
 have d1 := htg.c1
 have hf0 := htk.f0
 have hkl : k.ps.length = X.length + 1 + Y.length := by rw [hkp]; simp; omega
 have hkb : k.b < w.heap.size := block_of_cell c0
 have hgb : g.b < w.heap.size := block_of_cell d0
 have hpb : pb < w.heap.size := block_of_cell pm1
 have hgbb : gb < w.heap.size := block_of_cell gk1
 have hgk : g.b ≠ k.b := fun e => (List.pairwise_cons.1 hS.sep).1 (topF g) (by simp) k.b 0 (.inl rfl) (.inl e.symm)
 have hgl : g.ks.length = A.length + 1 + B.length := by rw [hks]; simp; omega
 have hpc := htk.sp.le
 have hpc2 := htk.sp.cap
 have hk0 : ∃ k0, k.ks[0]? = some k0 := ⟨_, List.getElem?_eq_getElem (by rw [hkk]; simp; omega)⟩
 obtain ⟨k0, hk0⟩ := hk0
 obtain ⟨kb, ko, rfl, kk1, _⟩ := htk.kid hk0
 have hkc := htk.sk.le
 have hnn : k.ks.length = k.ps.length + 1 := by rw [hkk, hkp]; simp; omega
 have hf1 := htk.f1
 rw [hnn] at c1 hkc
 rw [show X.length = o - 1 by omega] at pm1 pm2
 have HTK := Lib.hid htk
 have HTG := Lib.hid htg
 have HS := Lib.hid hS
 have HQ := Lib.hid (And.intro hps (And.intro hks (And.intro ha (And.intro hkp hkk))))
 have HK := Lib.hid (And.intro hKX hKY)
 clear hn htk htg hS hkm hmm hps hks hkp hkk hk0 kk1 hnn hKX hKY
 obtain ⟨nk, hnk⟩ : ∃ nk, k.ps.length = nk := ⟨_, rfl⟩
 obtain ⟨np, hnp⟩ : ∃ np, g.ps.length = np := ⟨_, rfl⟩
 obtain ⟨ng, hng⟩ : ∃ ng, g.ks.length = ng := ⟨_, rfl⟩
 obtain ⟨i, hi⟩ : ∃ i, C.length = i := ⟨_, rfl⟩
 rw [hnk] at c0 hl1 hkl hpc c1 hkc
 rw [hnp] at d0 hl2
 rw [hng] at d1 hl3 hgl
 rw [hi] at gk1 gk2 ha
 have hi0 : (0 : Int) ≤ (i : Int) := by omega
 have hi1 : (i : Int) < (ng : Int) := by omega
 have ho2 : 2 ≤ (o : Int) := by omega
 have ho3 : (o : Int) + 1 ≤ (nk : Int) := by omega
 have hnk2 : (nk : Int) ≤ 1000 := by omega
 have hnk3 : (nk : Int) ≤ (pc : Int) := by omega
 have hne : ¬ (nk - o = 0) := by omega
 have HN := Lib.hid (And.intro hnk (And.intro hnp (And.intro hng (And.intro hi (And.intro ho (And.intro ha (And.intro hkl hgl)))))))
 rw [hi]
 have hkc2 : (nk : Int) + 1 ≤ (kc : Int) := by omega
 have hkc3 : (kc : Int) ≤ 9223372036854775807 := by have := HTK.out.sk.cap; unfold maxLen at this; omega
 have hok : (o : Int) ≤ (nk : Int) + 1 := by omega
 have hne2 : ¬ (nk + 1 - o = 0) := by omega
 have hne3 : ¬ (o = 0) := by omega
 have HLF := Lib.hid (fun W hc => leaf_raw k.b (some ⟨kb, ko, none⟩) (nk + 1) kc false rfl (by omega) W hc)
 have HMD : Hid (∃ l r : G, l.b = k.b ∧ l.ps = X ∧ l.ks = KX ∧ r.b = w.heap.size + 1 ∧ r.ps = Y ∧ r.ks = KY ∧ ∃ W, (((w.setCell ⟨k.b, 0, none⟩ (.slice (some ⟨pb, po, none⟩) (o - 1) (o - 1))).setCell ⟨k.b, 1, none⟩ (.slice (some ⟨kb, ko, none⟩) o o)).alloc (.cells #[.string ⟨m.1.toArray⟩, .string ⟨m.2.toArray⟩] 168)).alloc (.cells #[.slice (some ⟨pb, po + o * 2, none⟩) (nk - o) (nk - o), .slice (some ⟨kb, ko + o, none⟩) (nk + 1 - o) (nk + 1 - o)] 172) = W ∧ Hid (St w (foot (h + 1) g) W [l, r, g] (subsOf h k.ks ++ (A ++ B).map fun k => (h, k))) ∧ Hid (Top W g qa qc (some ⟨gb, go_, none⟩) gc) ∧ W.cell? ⟨w.heap.size, 0, none⟩ = some (.string ⟨m.1.toArray⟩) ∧ W.cell? ⟨w.heap.size, 1, none⟩ = some (.string ⟨m.2.toArray⟩)) := Lib.hid (by
  have s1 := HTK.out.sk.cutTo o (by rw [HQ.out.2.2.2.2]; simp; have := HK.out.1; omega)
  have s2 := HTK.out.sk.cutFrom o (by rw [HQ.out.2.2.2.2]; simp; have := HK.out.1; omega)
  have g1 := HTK.out.sk.rng_sub 0 o (by rw [HQ.out.2.2.2.2]; simp; have := HK.out.1; omega)
  have g2 := HTK.out.sk.rng_sub o (nk + 1 - o) (by rw [HQ.out.2.2.2.2]; simp; have := HK.out; omega)
  have e1 : k.ks.length - o = nk + 1 - o := by rw [HQ.out.2.2.2.2]; simp; have := HK.out; omega
  rw [Nat.add_zero] at g1
  rw [Nat.mul_one, HQ.out.2.2.2.2, kidsV_take, ← HK.out.1, List.take_left] at s1
  rw [Nat.mul_one, Nat.mul_one, e1, HQ.out.2.2.2.2, kidsV_drop] at s2
  have e2 : (KX ++ KY).drop o = KY := by rw [← HK.out.1, List.drop_left]
  rw [e2] at s2
  have e3 : KY.length = nk + 1 - o := by have := HK.out; omega
  refine ⟨.mk k.b (rng pb po ((o - 1) * 2)) (rng kb ko o) X KX, .mk (w.heap.size + 1) (rng pb (po + o * 2) ((nk - o) * 2)) (rng kb (ko + o) (nk + 1 - o)) Y KY, rfl, rfl, rfl, rfl, rfl, rfl, _, rfl, Lib.hid ?_, Lib.hid ?_, ?_, ?_⟩
  ·refine split_st (KX := KX) (KY := KY) HS.out HTK.out HQ.out.2.2.2.1 ho hnk hX hY (Fl := rng kb ko o) (Fr' := rng kb (ko + o) (nk + 1 - o)) (la := some ⟨kb, ko, none⟩) (lc := o) (ra := some ⟨kb, ko + o, none⟩) (rc := nk + 1 - o) (by have := s1; rw [HK.out.1] at this ⊢; exact this) (by rw [e3]; exact s2) g1 g2 (fun b x h1 h2 => by obtain ⟨_, _, a1⟩ := h1; obtain ⟨_, b1, _⟩ := h2; omega) (by omega) (by simp) ?_ ?_ ?_ ?_ ?_ ?_ ?_ ?_ ?_
   ·exact (((fr_cell w k.b 0 _).trans (fr_cell _ k.b 1 _) (fun _ _ h => .inl h)).alloc _).alloc _
   all_goals (have hf1 := HTK.out.f1; (try rw [HK.out.1]); (try rw [e3]); clear s1 s2 g1 g2 e1 e2 e3 hnk hnp hng hi ho ha hkl hgl; go_simp)
  ·exact HTG.out.fr ((((fr_cell w k.b 0 _).trans (fr_cell _ k.b 1 _) (fun _ _ h => .inl h)).alloc _).alloc _) (fun b x hg e => by subst e; exact (List.pairwise_cons.1 HS.out.sep).1 (topF g) (by simp) k.b x (.inl rfl) hg)
  ·go_simp
  ·go_simp)
 clear hnk hnp hng hi ho ha hkl hgl
 go_enter Tryz.func95, Tryz.ntmps95
 go_wp2_with (go_at_call 100; refine (HLF.out _ (by go_simp)).mono ?_; rintro e W ⟨rfl, rfl⟩)
 obtain ⟨l, r, hl1, hl2, hl3, hr1, hr2, hr3, W, hW, HS1, HT1, m0, m1⟩ := HMD.out
 rw [hW]
 clear hW HMD
 obtain ⟨M, hM⟩ : ∃ M, w.heap.size = M := ⟨_, rfl⟩
 have HM := Lib.hid hM
 rw [hM] at m0 m1
 have hMW : M < W.heap.size := block_of_cell m0
 have hgbW : g.b < W.heap.size := block_of_cell HT1.out.c0
 have hgM : g.b ≠ M := by omega
 have e0 := HT1.out.c0
 rw [HN.out.2.1] at e0
 have HI : Hid (Calls Tryz.prog 126 #[.slice qa np qc, .int .i64 i, .slice (some ⟨W.heap.size, 0, none⟩) 1 1] ((W.alloc (.cells #[.string ⟨m.1.toArray⟩, .string ⟨m.2.toArray⟩] 168)).drew) fun e V => ∃ a1 c1 F1, e = .returned (.slice a1 (np + 1) c1) ∧ V.cell? ⟨g.b, 0, none⟩ = some (.slice qa np qc) ∧ V.frozen? ⟨g.b, 0, none⟩ = false ∧ V.cell? ⟨M, 0, none⟩ = some (.string ⟨m.1.toArray⟩) ∧ V.cell? ⟨M, 1, none⟩ = some (.string ⟨m.2.toArray⟩) ∧ Hid (St w (foot (h + 1) g) (V.setCell ⟨g.b, 0, none⟩ (.slice a1 (np + 1) c1)) (.mk g.b F1 g.Fk (C ++ m :: D) g.ks :: [l, r]) (subsOf h k.ks ++ (A ++ B).map fun k => (h, k)) ∧ Top (V.setCell ⟨g.b, 0, none⟩ (.slice a1 (np + 1) c1)) (.mk g.b F1 g.Fk (C ++ m :: D) g.ks) a1 c1 (some ⟨gb, go_, none⟩) gc)) := Lib.hid (by
  have fA := alE W (.cells #[.string ⟨m.1.toArray⟩, .string ⟨m.2.toArray⟩] 168)
  have hsp := HT1.out.sp
  rw [HN.out.2.1] at hsp
  refine (insert_pair g.Fp qa np qc i (pairsV g.ps) W.heap.size [.string ⟨m.1.toArray⟩, .string ⟨m.2.toArray⟩] rfl (by omega) (by rw [← HN.out.2.1, ← HN.out.2.2.2.1, HQ.out.1]; simp) _ (hsp.fr (Fr.ofBelow fA noCells) (fun _ _ _ h => h)) (HT1.out.lp.later (Fr.ofBelow fA noCells)) ((Arg.made W [.string ⟨m.1.toArray⟩, .string ⟨m.2.toArray⟩] 168 (by intro u hu; simp only [List.mem_cons, List.not_mem_nil, or_false] at hu; rcases hu with rfl | rfl <;> rfl)).block rfl) (fun x hx => Nat.lt_irrefl _ (HT1.out.lp _ _ hx))).mono ?_
  rintro e V ⟨a', c', F', rfl, hsl, hfr, hgr, hli⟩
  have fW : Fr g.Fp W V := (Fr.ofBelow fA _).trans hfr (fun _ _ h => .inl h)
  have nM : ∀ x, ¬ g.Fp M x := fun x hx => by have := HTG.out.lp _ _ hx; omega
  have hpv : (pairsV g.ps).take (i * 2) ++ ([.string ⟨m.1.toArray⟩, .string ⟨m.2.toArray⟩] ++ (pairsV g.ps).drop (i * 2)) = pairsV (C ++ m :: D) := by rw [HQ.out.1, ← HN.out.2.2.2.1]; exact ins_pairs C D m
  rw [hpv] at hsl
  have hlen : (C ++ m :: D).length = np + 1 := by rw [← HN.out.2.1, HQ.out.1]; simp; omega
  exact ⟨a', c', F', rfl, (fW.cell g.b 0 hgbW (HT1.out.bp 0)).trans e0, (fW.froz g.b 0 hgbW (HT1.out.bp 0)).trans HT1.out.f0, (fW.cell M 0 hMW (nM 0)).trans m0, (fW.cell M 1 hMW (nM 1)).trans m1,
   Lib.hid (insP (HS1.out.perm (by simpa using (List.perm_append_comm (l₁ := [l, r]) (l₂ := [g]))) (List.Perm.refl _)) HT1.out fA hlen hsl hfr hgr hli)⟩)
 clear hM
 rw [HM.out]
 refine wp_region_till 11 (fun V => (V.cell? ⟨M, 0, none⟩ = some (.string ⟨m.1.toArray⟩) ∧ V.cell? ⟨M, 1, none⟩ = some (.string ⟨m.2.toArray⟩)) ∧ V.cell? ⟨g.b, 0, none⟩ = some (.slice qa np qc)) (by kernel_rfl) (⟨⟨m0, m1⟩, e0⟩) (fun hH => ?_)
 refine zzU (i := 0) (v := ?v0) rfl (by kernel_rfl) (fun _ _ _ h => h) rfl ?h0 hH ?r0
 case h0 => (intro W h; (try dsimp only at h); go_simp; all_goals (with_reducible rfl))
 try simp only [zzA, zzC, Act.put, zzD, zzE, zzF]
 refine zzU (i := 1) (v := ?v1) rfl (by kernel_rfl) (fun _ _ _ h => h) rfl ?h1 hH ?r1
 case h1 => (intro W h; (try dsimp only at h); go_simp; all_goals (with_reducible rfl))
 try simp only [zzA, zzB, zzC, Act.put, zzD, zzE, zzF]
 refine zzU (i := 2) (v := ?v2) rfl (by kernel_rfl) (fun _ _ _ h => h) rfl ?h2 hH ?r2
 case h2 => (intro W h; (try dsimp only at h); go_simp; all_goals (with_reducible rfl))
 try simp only [zzA, zzB, zzC, Act.put, zzD, zzE, zzF]
 refine zzU (i := 3) (v := ?v3) rfl (by kernel_rfl) (fun _ _ _ h => h) rfl ?h3 hH ?r3
 case h3 => (intro W h; (try dsimp only at h); go_simp; all_goals (with_reducible rfl))
 try simp only [zzA, zzB, zzC, Act.put, zzD, zzE, zzF]
 refine zzU (i := 4) (v := ?v4) rfl (by kernel_rfl) (fun _ _ _ h => h) rfl ?h4 hH ?r4
 case h4 => (intro W h; (try dsimp only at h); go_simp; all_goals (with_reducible rfl))
 try simp only [zzA, zzB, zzC, Act.put, zzD, zzE, zzF]
 refine zzU (i := 5) (v := ?v5) rfl (by kernel_rfl) (fun _ _ _ h => h) rfl ?h5 hH ?r5
 case h5 => (intro W h; (try dsimp only at h); go_simp; all_goals (with_reducible rfl))
 try simp only [zzA, zzB, zzC, Act.put, zzD, zzE, zzF]
 refine zzU (i := 6) (v := ?v6) rfl (by kernel_rfl) (fun _ _ _ h => h) rfl ?h6 hH ?r6
 case h6 => (intro W h; (try dsimp only at h); go_simp; all_goals (with_reducible rfl))
 try simp only [zzA, zzB, zzC, Act.put, zzD, zzE, zzF]
 refine wpTill_one (i := 7) (by kernel_rfl) rfl rfl (fun K hK => ?_)
 go_simp
 have hH2 := And.intro (And.intro (old_cell hH.1.1 (alD W (.cells #[.string ⟨m.1.toArray⟩, .string ⟨m.2.toArray⟩] 168))) (old_cell hH.1.2 (alD W (.cells #[.string ⟨m.1.toArray⟩, .string ⟨m.2.toArray⟩] 168)))) (old_cell hH.2 (alD W (.cells #[.string ⟨m.1.toArray⟩, .string ⟨m.2.toArray⟩] 168)))
 refine hK.out _ _ (fun _ => hH2) ?_
 clear hK K hH; have hH := hH2; clear hH2
 try simp only [zzA, zzB, zzC, Act.put, zzD, zzE, zzF]
 refine wpTill_one (i := 8) (by kernel_rfl) rfl rfl (fun K hK => ?_)
 go_simp
 (go_at_call 126; refine HI.out.mono ?_; rintro e V ⟨a1, c1, F1, rfl, v0, v1, v2, v3, HS2⟩)
 have hH2 := And.intro (And.intro v2 v3) v0
 refine hK.out _ _ (fun _ => hH2) ?_
 clear hK K hH; have hH := hH2; clear hH2
 try simp only [zzA, zzB, zzC, Act.put, zzD, zzE, zzF]
 refine wpTill_one (i := 9) (by kernel_rfl) rfl rfl (fun K hK => ?_)
 go_simp
 refine hK.out _ _ (fun _ => hH) ?_
 clear hK K
 try simp only [zzA, zzB, zzC, Act.put, zzD, zzE, zzF]
 refine wpTill_one (i := 10) (by kernel_rfl) rfl rfl (fun K hK => ?_)
 go_simp
 refine hK.out _ _ (fun _ => hH) ?_
 clear hK K
 try simp only [zzA, zzB, zzC, Act.put, zzD, zzE, zzF]
 refine wpTill_one (i := 11) (by kernel_rfl) rfl rfl (fun K hK => ?_)
 go_simp
 refine hK.out _ _ (fun h => absurd rfl h) ?_
 clear hK K
 try simp only [zzA, zzB, zzC, Act.put, zzD, zzE, zzF]
 refine wpTill_done (by kernel_rfl) ?_ _
 clear v0 v1 v2 v3 hH HI m0 m1 e0
 generalize V.setCell ⟨g.b, 0, none⟩ (.slice a1 (np + 1) c1) = W5 at *
 have e1 : W5.cell? ⟨g.b, 1, none⟩ = some (.slice (some ⟨gb, go_, none⟩) ng gc) := by rw [← HN.out.2.2.1]; exact HS2.out.2.c1
 have HI2 : Hid (Calls Tryz.prog 127 #[.slice (some ⟨gb, go_, none⟩) ng gc, .int .i64 ((i : Int) + 1), .slice (some ⟨W5.heap.size, 0, none⟩) 1 1] (W5.alloc (.cells #[.pointer (some ⟨M + 1, 0, none⟩)] 152)) fun e V => ∃ a2 c2, e = .returned (.slice a2 (ng + 1) c2) ∧ V.cell? ⟨g.b, 1, none⟩ = some (.slice (some ⟨gb, go_, none⟩) ng gc) ∧ V.frozen? ⟨g.b, 1, none⟩ = false ∧ Hid (SplitTo w h g A B C D X Y m KX KY (.returned (.tuple #[])) (V.setCell ⟨g.b, 1, none⟩ (.slice a2 (ng + 1) c2)))) := Lib.hid (by
  have fA := al1 W5 (.cells #[.pointer (some ⟨M + 1, 0, none⟩)] 152)
  have ht := HS2.out.2
  have hbk : ∀ x, ¬ g.Fk g.b x := ht.bk
  have hgb5 : g.b < W5.heap.size := block_of_cell e1
  have hA1 : A.length + 1 = i + 1 := by rw [HN.out.2.2.2.2.2.1]
  have hkl : g.ks = A ++ l :: B ∨ True := .inr trivial
  refine (insert_node_z ((i : Int) + 1) g.Fk (some ⟨gb, go_, none⟩) ng gc (i + 1) (by omega) (kidsV g.ks) W5.heap.size [.pointer (some ⟨M + 1, 0, none⟩)] rfl (by omega) (by rw [← HN.out.2.2.1, HQ.out.2.1, ← HN.out.2.2.2.2.2.1]; simp) _ ((show Sl W5 1 g.Fk (some ⟨gb, go_, none⟩) ng gc (kidsV g.ks) by rw [← HN.out.2.2.1]; exact ht.sk).fr (Fr.ofBelow fA noCells) (fun _ _ _ h => h)) ((show Lies W5 g.Fk from ht.lk).later (Fr.ofBelow fA noCells)) (Arg.made W5 [.pointer (some ⟨M + 1, 0, none⟩)] 152 (by intro u hu; simp only [List.mem_cons, List.not_mem_nil, or_false] at hu; subst hu; rfl)) (fun x hx => Nat.lt_irrefl _ (ht.lk _ _ hx))).mono ?_
  rintro e V2 ⟨a', c', F', rfl, hsl, hfr, hgr, hli⟩
  have fW : Fr g.Fk W5 V2 := (Fr.ofBelow fA _).trans hfr (fun _ _ h => .inl h)
  have hks : kidsV g.ks = kidsV ((A ++ [l]) ++ B) := by rw [HQ.out.2.1]; simp [kidsV, hl1]
  have hpv : (kidsV g.ks).take (i + 1) ++ ([.pointer (some ⟨M + 1, 0, none⟩)] ++ (kidsV g.ks).drop (i + 1)) = kidsV (A ++ l :: r :: B) := by
   rw [hks, show i + 1 = (A ++ [l]).length by rw [List.length_append]; exact hA1.symm]
   have := ins_kids (A ++ [l]) B (M + 1) r (by rw [hr1, HM.out])
   rw [this]; simp
  rw [hpv] at hsl
  have hlen : (A ++ l :: r :: B).length = ng + 1 := by rw [← HN.out.2.2.1, HQ.out.2.1]; simp; omega
  obtain ⟨hs3, _⟩ := insK (g := .mk g.b F1 g.Fk (C ++ m :: D) g.ks) HS2.out.1 ht fA hlen hsl hfr hgr hli
  have hs4 : St w (foot (h + 1) g) (V2.setCell ⟨g.b, 1, none⟩ (.slice a' (ng + 1) c')) [.mk g.b F1 F' (C ++ m :: D) (A ++ l :: r :: B), l, r] (subsOf h (KX ++ KY) ++ (A ++ B).map fun k => (h, k)) := by
   have := HQ.out.2.2.2.2
   rw [this] at hs3
   exact hs3
  obtain ⟨n1, n2, n3⟩ := St.two_close hl3 hr3 rfl hs4
  exact ⟨a', c', rfl, (fW.cell g.b 1 hgb5 (hbk 1)).trans e1, (fW.froz g.b 1 hgb5 (hbk 1)).trans ht.f1, Lib.hid ⟨rfl, l, r, .mk g.b F1 F' (C ++ m :: D) (A ++ l :: r :: B), rfl, rfl, rfl, hl2, hl3, hr2, hr3, n1, n2, n3⟩⟩)
 go_wp2_with (go_at_call 127; refine HI2.out.mono ?_; rintro e V2 ⟨a2, c2, rfl, u0, u1, HE⟩)
 go_end0
 exact HE.out
end Go.Proofs.YtecnijnmgdfdhaaGreat
