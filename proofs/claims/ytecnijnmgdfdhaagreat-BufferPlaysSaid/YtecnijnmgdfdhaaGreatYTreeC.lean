/- Joined: Tree10, Tree11. -/
import Derived.Test.YtecnijnmgdfdhaaGreatYTreeB
namespace Go.Proofs.YtecnijnmgdfdhaaGreat
open Go.RowKit Tr

structure Nx where
 g : G
 pa : Option Addr
 pc : Nat
 ka : Option Addr
 kc : Nat
abbrev TopX (w : World) (t : Nx) : Prop := Top w t.g t.pa t.pc t.ka t.kc
structure Sx (w0 : World) (F : Foot) (w : World) (T : List Nx) (U : List (Nat × G)) : Prop where
 st : St w0 F w (T.map (·.g)) U
 top : ∀ t ∈ T, TopX w t
section
variable {w0 w w' W E V : World} {F : Foot} {T T' : List Nx} {U U' : List (Nat × G)} {t t' : Nx}
theorem Sx.perm (h : Sx w0 F w T U) (ht : T.Perm T') (hu : U.Perm U') : Sx w0 F w T' U' := ⟨h.st.perm (ht.map _) hu, fun t h1 => h.top t (ht.mem_iff.2 h1)⟩
theorem Sx.hd (h : Sx w0 F w (t :: T) U) : TopX w t := h.top t (by simp)
theorem Sx.apart (h : Sx w0 F w (t :: T) U) (hm : t' ∈ T) : Apart (topF t.g) (topF t'.g) := (List.pairwise_cons.1 h.st.sep).1 (topF t'.g) (List.mem_append_left _ (List.mem_map.2 ⟨t'.g, List.mem_map.2 ⟨t', hm, rfl⟩, rfl⟩))
theorem Sx.rest (h : Sx w0 F w (t :: T) U) {S : Foot} (hf : Fr S w w') (hS : ∀ b o, S b o → topF t.g b o ∨ w.heap.size ≤ b) : ∀ t' ∈ T, TopX w' t' := fun t' hm => by
 have ht := h.top t' (by simp [hm])
 refine ht.fr hf (fun b o h1 h2 => ?_)
 rcases hS b o h2 with h3 | h3
 ·exact h.apart hm b o h3 h1
 ·have := ht.lies b o h1; omega
theorem Sx.one (h : Sx w0 F w (t :: T) U) {S : Foot} (hf : Fr S w w') (hS : ∀ b o, S b o → topF t.g b o ∨ w.heap.size ≤ b) (ht : TopX w' t') (hi : Grew w (topF t.g) (topF t'.g)) : Sx w0 F w' (t' :: T) U :=
 ⟨h.st.one hf hS ⟨_, _, _, _, ht⟩ hi, fun x hx => by
  rcases List.mem_cons.1 hx with rfl | hx
  ·exact ht
  ·exact h.rest hf hS x hx⟩
theorem Sx.later (h : Sx w0 F w T U) (hb : Below w.heap.size w w') : Sx w0 F w' T U := ⟨h.st.later hb, fun t ht => (h.top t ht).later hb⟩
theorem Sx.ne (h : Sx w0 F w (t :: T) U) (hm : t' ∈ T) : t.g.b ≠ t'.g.b := fun e => h.apart hm t'.g.b 0 (.inl e.symm) (.inl rfl)
theorem Sx.insP (hs : Sx w0 F W (t :: T) U) {C D : List Pr} {x : Pr} {i n : Nat} (hp : t.g.ps = C ++ D) (hi : C.length = i) (hn : t.g.ps.length = n) (hn2 : n ≤ 1000000) {vb : Nat} (hb : Below W.heap.size W E) (hA : Arg E vb [.string ⟨x.1.toArray⟩, .string ⟨x.2.toArray⟩]) (hv : W.heap.size ≤ vb) (z : Int) (hz : z = (i : Int)) :
  Calls Tryz.prog 126 #[.slice t.pa n t.pc, .int .i64 z, .slice (some ⟨vb, 0, none⟩) 1 1] E fun e V => ∃ a1 c1 F1, e = .returned (.slice a1 (n + 1) c1) ∧ (V.cell? ⟨t.g.b, 0, none⟩ = some (.slice t.pa n t.pc) ∧ V.frozen? ⟨t.g.b, 0, none⟩ = false) ∧ Hid (∀ t' ∈ T, TopX V t') ∧ Hid (Below W.heap.size W E ∧ Fr t.g.Fp W V) ∧
   Hid (Sx w0 F (V.setCell ⟨t.g.b, 0, none⟩ (.slice a1 (n + 1) c1)) (⟨.mk t.g.b F1 t.g.Fk (C ++ x :: D) t.g.ks, a1, c1, t.ka, t.kc⟩ :: T) U) := by
 subst hz
 have ht := hs.hd
 have hgb : t.g.b < W.heap.size := block_of_cell ht.c0
 have hsp := ht.sp
 rw [hn] at hsp
 refine (insert_pair t.g.Fp t.pa n t.pc i (pairsV t.g.ps) vb _ rfl hn2 (by rw [← hn, ← hi, hp]; simp) _ (hsp.fr (Fr.ofBelow hb noCells) (fun _ _ _ h => h)) (ht.lp.later (Fr.ofBelow hb noCells)) hA (fun o ho => by have := ht.lp _ _ ho; omega)).mono ?_
 rintro e V ⟨a', c', F', rfl, hsl, hfr, hgr, hli⟩
 have fW : Fr t.g.Fp W V := (Fr.ofBelow hb _).trans hfr (fun _ _ h => .inl h)
 rw [hp, ← hi, ins_pairs C D x] at hsl
 obtain ⟨h1, h2, h3⟩ := ht.setP fW (fun _ _ h => .inl h) (show (C ++ x :: D).length = n + 1 by rw [← hn, hp]; simp; omega) hsl (fun b o h => (hgr b o h).imp id (fun h => by have := hb.size; omega)) hli
 have d0 : V.cell? ⟨t.g.b, 0, none⟩ = _ := (fW.cell t.g.b 0 hgb (ht.bp 0)).trans ht.c0
 rw [hn] at d0
 exact ⟨a', c', F', rfl, ⟨d0, (fW.froz t.g.b 0 hgb (ht.bp 0)).trans ht.f0⟩, Lib.hid (hs.rest fW (fun _ _ h => .inl (.inr (.inl h)))), Lib.hid ⟨hb, fW⟩, Lib.hid (hs.one (t' := ⟨.mk t.g.b F' t.g.Fk (C ++ x :: D) t.g.ks, a', c', t.ka, t.kc⟩) h2 (fun _ _ h => .inl h) h1 h3)⟩
theorem Sx.insK (hs : Sx w0 F W (t :: T) U) {A B : List G} {r : G} {i n : Nat} (hp : t.g.ks = A ++ B) (hi : A.length = i) (hn : t.g.ks.length = n) (hn2 : n ≤ 1000000) {vb : Nat} (hb : Below W.heap.size W E) (hA : Arg E vb [ptrV r.b]) (hv : W.heap.size ≤ vb) (z : Int) (hz : z = (i : Int)) :
  Calls Tryz.prog 127 #[.slice t.ka n t.kc, .int .i64 z, .slice (some ⟨vb, 0, none⟩) 1 1] E fun e V => ∃ a1 c1 F1, e = .returned (.slice a1 (n + 1) c1) ∧ (V.cell? ⟨t.g.b, 1, none⟩ = some (.slice t.ka n t.kc) ∧ V.frozen? ⟨t.g.b, 1, none⟩ = false) ∧ Hid (∀ t' ∈ T, TopX V t') ∧ Hid (Below W.heap.size W E ∧ Fr t.g.Fk W V) ∧
   Hid (Sx w0 F (V.setCell ⟨t.g.b, 1, none⟩ (.slice a1 (n + 1) c1)) (⟨.mk t.g.b t.g.Fp F1 t.g.ps (A ++ r :: B), t.pa, t.pc, a1, c1⟩ :: T) U) := by
 have ht := hs.hd
 have hgb : t.g.b < W.heap.size := block_of_cell ht.c0
 have hsp := ht.sk
 rw [hn] at hsp
 refine (insert_node_z z t.g.Fk t.ka n t.kc i hz (kidsV t.g.ks) vb _ rfl hn2 (by rw [← hn, ← hi, hp]; simp) _ (hsp.fr (Fr.ofBelow hb noCells) (fun _ _ _ h => h)) (ht.lk.later (Fr.ofBelow hb noCells)) hA (fun o ho => by have := ht.lk _ _ ho; omega)).mono ?_
 rintro e V ⟨a', c', F', rfl, hsl, hfr, hgr, hli⟩
 have fW : Fr t.g.Fk W V := (Fr.ofBelow hb _).trans hfr (fun _ _ h => .inl h)
 rw [hp, ← hi, ins_kids A B r.b r rfl] at hsl
 obtain ⟨h1, h2, h3⟩ := ht.setK fW (fun _ _ h => .inl h) (show (A ++ r :: B).length = n + 1 by rw [← hn, hp]; simp; omega) hsl (fun b o h => (hgr b o h).imp id (fun h => by have := hb.size; omega)) hli
 have d0 : V.cell? ⟨t.g.b, 1, none⟩ = _ := (fW.cell t.g.b 1 hgb (ht.bk 1)).trans ht.c1
 rw [hn] at d0
 exact ⟨a', c', F', rfl, ⟨d0, (fW.froz t.g.b 1 hgb (ht.bk 1)).trans ht.f1⟩, Lib.hid (hs.rest fW (fun _ _ h => .inl (.inr (.inr h)))), Lib.hid ⟨hb, fW⟩, Lib.hid (hs.one (t' := ⟨.mk t.g.b t.g.Fp F' t.g.ps (A ++ r :: B), t.pa, t.pc, a', c'⟩) h2 (fun _ _ h => .inl h) h1 h3)⟩
theorem Sx.delP (hs : Sx w0 F W (t :: T) U) {C D : List Pr} {x : Pr} {i n : Nat} (hp : t.g.ps = C ++ x :: D) (hi : C.length = i) (hn : t.g.ps.length = n) (hn2 : n ≤ 1000000) (z y : Int) (hz : z = (i : Int)) (hy : y = (i : Int) + 1) :
  Calls Tryz.prog 132 #[.slice t.pa n t.pc, .int .i64 z, .int .i64 y] W fun e V => e = .returned (.slice t.pa (n - 1) t.pc) ∧ (V.cell? ⟨t.g.b, 0, none⟩ = some (.slice t.pa n t.pc) ∧ V.frozen? ⟨t.g.b, 0, none⟩ = false) ∧ Hid (∀ t' ∈ T, TopX V t') ∧ Hid (Fr t.g.Fp W V) ∧
   Hid (Sx w0 F (V.setCell ⟨t.g.b, 0, none⟩ (.slice t.pa (n - 1) t.pc)) (⟨.mk t.g.b t.g.Fp t.g.Fk (C ++ D) t.g.ks, t.pa, t.pc, t.ka, t.kc⟩ :: T) U) := by
 subst hz hy
 have ht := hs.hd
 have hgb : t.g.b < W.heap.size := block_of_cell ht.c0
 have hsp := ht.sp
 rw [hn] at hsp
 have hl : n = C.length + 1 + D.length := by rw [← hn, hp]; simp; omega
 refine (delete_pair t.g.Fp t.pa n t.pc i (pairsV t.g.ps) hn2 (by omega) _ hsp).mono ?_
 rintro e V ⟨rfl, hsl, fW⟩
 have hv : (pairsV t.g.ps).take (i * 2) ++ (pairsV t.g.ps).drop ((i + 1) * 2) = pairsV (C ++ D) := by
  rw [pairsV_take, pairsV_drop, hp, ← hi, List.take_left, show C ++ x :: D = (C ++ [x]) ++ D by simp, show C.length + 1 = (C ++ [x]).length by simp, List.drop_left, pairsV_append]
 rw [hv] at hsl
 obtain ⟨h1, h2, h3⟩ := ht.setP fW (fun _ _ h => .inl h) (show (C ++ D).length = n - 1 by rw [hl, List.length_append]; omega) hsl (fun _ _ h => .inl h) (ht.lp.later fW)
 have d0 : V.cell? ⟨t.g.b, 0, none⟩ = _ := (fW.cell t.g.b 0 hgb (ht.bp 0)).trans ht.c0
 rw [hn] at d0
 exact ⟨rfl, ⟨d0, (fW.froz t.g.b 0 hgb (ht.bp 0)).trans ht.f0⟩, Lib.hid (hs.rest fW (fun _ _ h => .inl (.inr (.inl h)))), Lib.hid fW, Lib.hid (hs.one (t' := ⟨.mk t.g.b t.g.Fp t.g.Fk (C ++ D) t.g.ks, t.pa, t.pc, t.ka, t.kc⟩) h2 (fun _ _ h => .inl h) h1 h3)⟩
theorem Sx.delK (hs : Sx w0 F W (t :: T) U) {A B : List G} {r : G} {i n : Nat} (hp : t.g.ks = A ++ r :: B) (hi : A.length = i) (hn : t.g.ks.length = n) (hn2 : n ≤ 1000000) (z y : Int) (hz : z = (i : Int)) (hy : y = (i : Int) + 1) :
  Calls Tryz.prog 171 #[.slice t.ka n t.kc, .int .i64 z, .int .i64 y] W fun e V => e = .returned (.slice t.ka (n - 1) t.kc) ∧ (V.cell? ⟨t.g.b, 1, none⟩ = some (.slice t.ka n t.kc) ∧ V.frozen? ⟨t.g.b, 1, none⟩ = false) ∧ Hid (∀ t' ∈ T, TopX V t') ∧ Hid (Fr t.g.Fk W V) ∧
   Hid (Sx w0 F (V.setCell ⟨t.g.b, 1, none⟩ (.slice t.ka (n - 1) t.kc)) (⟨.mk t.g.b t.g.Fp t.g.Fk t.g.ps (A ++ B), t.pa, t.pc, t.ka, t.kc⟩ :: T) U) := by
 subst hz hy
 have ht := hs.hd
 have hgb : t.g.b < W.heap.size := block_of_cell ht.c0
 have hsp := ht.sk
 rw [hn] at hsp
 have hl : n = A.length + 1 + B.length := by rw [← hn, hp]; simp; omega
 refine (delete_node t.g.Fk t.ka n t.kc i (kidsV t.g.ks) hn2 (by omega) _ hsp).mono ?_
 rintro e V ⟨rfl, hsl, fW⟩
 have hv : (kidsV t.g.ks).take i ++ (kidsV t.g.ks).drop (i + 1) = kidsV (A ++ B) := by
  rw [kidsV_take, kidsV_drop, hp, ← hi, List.take_left, show A ++ r :: B = (A ++ [r]) ++ B by simp, show A.length + 1 = (A ++ [r]).length by simp, List.drop_left, kidsV_append]
 rw [hv] at hsl
 obtain ⟨h1, h2, h3⟩ := ht.setK fW (fun _ _ h => .inl h) (show (A ++ B).length = n - 1 by rw [hl, List.length_append]; omega) hsl (fun _ _ h => .inl h) (ht.lk.later fW)
 have d0 : V.cell? ⟨t.g.b, 1, none⟩ = _ := (fW.cell t.g.b 1 hgb (ht.bk 1)).trans ht.c1
 rw [hn] at d0
 exact ⟨rfl, ⟨d0, (fW.froz t.g.b 1 hgb (ht.bk 1)).trans ht.f1⟩, Lib.hid (hs.rest fW (fun _ _ h => .inl (.inr (.inr h)))), Lib.hid fW, Lib.hid (hs.one (t' := ⟨.mk t.g.b t.g.Fp t.g.Fk t.g.ps (A ++ B), t.pa, t.pc, t.ka, t.kc⟩) h2 (fun _ _ h => .inl h) h1 h3)⟩
end
end Go.Proofs.YtecnijnmgdfdhaaGreat

namespace Go.Proofs.YtecnijnmgdfdhaaGreat
open Go.RowKit Tr

theorem wp_appR {P : Program} {w : World} {o : Oper} {a : Act} {K : Act → World → Prop} {Q : Exit → Act → World → Prop} (d s : Operand) (t t' : TypeId)
  (ho : o.op = .call { callee := .builtin .append, args := #[d, s], argTypes := #[t, t'] }) (v u : Value) (hd : a.eval d = v) (hs : a.eval s = u) {v' : Value} {w' : World}
  (hr : (Builtin.append_ #[t, t'] o.type #[v, u]).run P w = .ok v' w') (h : K (a.put o.dst v') w') : o.wp P a w K Q := by
 unfold Oper.wp
 simp [execOp, ho, resolve, invoke, builtin, hd, hs, hr, Result.andThen]
 exact h
theorem Top.pairAt {w : World} {g : G} {b o pc : Nat} {ka : Option Addr} {kc : Nat} (h : Top w g (some ⟨b, o, none⟩) pc ka kc) {i : Nat} {p : Pr} (hp : g.ps[i]? = some p) :
  (w.cell? ⟨b, o + i * 2, none⟩ = some (.string ⟨p.1.toArray⟩) ∧ w.cell? ⟨b, o + i * 2 + 1, none⟩ = some (.string ⟨p.2.toArray⟩)) ∧ (w.frozen? ⟨b, o + i * 2, none⟩ = false ∧ w.frozen? ⟨b, o + i * 2 + 1, none⟩ = false) ∧ g.Fp b (o + i * 2) ∧ g.Fp b (o + i * 2 + 1) := by
 obtain ⟨b', o', e, h1, h2, h3, h4, h5, h6⟩ := h.pair hp
 cases e
 exact ⟨⟨h1, h2⟩, ⟨h3, h4⟩, h5, h6⟩
theorem Top.kidAt {w : World} {g : G} {pa : Option Addr} {pc b o kc : Nat} (h : Top w g pa pc (some ⟨b, o, none⟩) kc) {i : Nat} {k : G} (hp : g.ks[i]? = some k) : w.cell? ⟨b, o + i, none⟩ = some (ptrV k.b) ∧ g.Fk b (o + i) := by
 obtain ⟨b', o', e, h1, _⟩ := h.kid hp
 have hi := (List.getElem?_eq_some_iff.1 hp).1
 cases e
 obtain ⟨b', o', e, g1, _⟩ := h.sk.at_ _ rfl (by have := h.sk.le; omega)
 cases e
 exact ⟨h1, g1 i (by have := h.sk.le; omega)⟩
theorem St.kid2 {w : World} {h : Nat} {g l r : G} {A B : List G} (hn : Nd w (h + 1) g) (hks : g.ks = A ++ l :: r :: B) : St w (foot (h + 1) g) w [l, r, g] (subsOf h (l.ks ++ r.ks) ++ (A ++ B).map fun k => (h, k)) := by
 have h1 := St.kid (k := r) (A := A ++ [l]) (B := B) hn (by rw [hks]; simp)
 have h2 : (subsOf h r.ks ++ (A ++ [l] ++ B).map fun k => (h, k)).Perm ((h, l) :: (subsOf h r.ks ++ (A ++ B).map fun k => (h, k))) := by
  suffices h3 : ((A ++ [l] ++ B).map fun k => (h, k)).Perm ((h, l) :: (A ++ B).map fun k => (h, k)) from (List.Perm.append_left _ h3).trans List.perm_middle
  simp only [List.map_append, List.map_cons, List.append_assoc, List.cons_append, List.nil_append]
  exact List.perm_middle
 have h3 := (h1.perm (List.Perm.refl _) h2).open_
 rw [subsOf_append, List.append_assoc]
 exact h3
def TwoTo (w : World) (h : Nat) (g : G) (ps' : List Pr) (A B : List G) (lp : List Pr) (lk : List G) (rp : List Pr) (rk : List G) (e : Ending) (w' : World) : Prop := e = .returned (.tuple #[]) ∧
 ∃ l r g' : G, g'.b = g.b ∧ g'.ps = ps' ∧ g'.ks = A ++ l :: r :: B ∧ l.b ≠ r.b ∧ l.ps = lp ∧ l.ks = lk ∧ r.ps = rp ∧ r.ks = rk ∧ Nd w' (h + 1) g' ∧ Fr (foot (h + 1) g) w w' ∧ Grew w (foot (h + 1) g) (foot (h + 1) g')
def JoinTo (w : World) (h : Nat) (g : G) (ps' : List Pr) (A B : List G) (lp : List Pr) (lk : List G) (e : Ending) (w' : World) : Prop := e = .returned (.tuple #[]) ∧
 ∃ l g' : G, g'.b = g.b ∧ g'.ps = ps' ∧ g'.ks = A ++ l :: B ∧ l.ps = lp ∧ l.ks = lk ∧ Nd w' (h + 1) g' ∧ Fr (foot (h + 1) g) w w' ∧ Grew w (foot (h + 1) g) (foot (h + 1) g')
section
variable {w0 w w' W E V : World} {F : Foot} {T T' : List Nx} {U U' : List (Nat × G)} {t t' : Nx}
theorem Sx.ofSt {w0 w : World} {F : Foot} {l r g : G} {U : List (Nat × G)} (h : St w0 F w [l, r, g] U) : ∃ la lc lka lkc ra rc rka rkc ga gc gka gkc, Sx w0 F w [⟨l, la, lc, lka, lkc⟩, ⟨r, ra, rc, rka, rkc⟩, ⟨g, ga, gc, gka, gkc⟩] U := by
 obtain ⟨la, lc, lka, lkc, h1⟩ := h.top l (by simp)
 obtain ⟨ra, rc, rka, rkc, h2⟩ := h.top r (by simp)
 obtain ⟨ga, gc, gka, gkc, h3⟩ := h.top g (by simp)
 refine ⟨la, lc, lka, lkc, ra, rc, rka, rkc, ga, gc, gka, gkc, h, fun t ht => ?_⟩
 simp only [List.mem_cons, List.not_mem_nil, or_false] at ht
 rcases ht with rfl | rfl | rfl
 ·exact h1
 ·exact h2
 ·exact h3
theorem Sx.setPair {g : G} {b o pc : Nat} {ka : Option Addr} {kc : Nat} (hs : Sx w0 F W (⟨g, some ⟨b, o, none⟩, pc, ka, kc⟩ :: T) U) {C D : List Pr} {m z : Pr} {i : Nat} (hp : g.ps = C ++ m :: D) (hi : C.length = i) :
  (∀ t' ∈ T, TopX ((W.setCell ⟨b, o + i * 2, none⟩ (.string ⟨z.1.toArray⟩)).setCell ⟨b, o + i * 2 + 1, none⟩ (.string ⟨z.2.toArray⟩)) t') ∧ ((W.setCell ⟨b, o + i * 2, none⟩ (.string ⟨z.1.toArray⟩)).setCell ⟨b, o + i * 2 + 1, none⟩ (.string ⟨z.2.toArray⟩)).cell? ⟨g.b, 0, none⟩ = some (.slice (some ⟨b, o, none⟩) g.ps.length pc) ∧
   Sx w0 F ((W.setCell ⟨b, o + i * 2, none⟩ (.string ⟨z.1.toArray⟩)).setCell ⟨b, o + i * 2 + 1, none⟩ (.string ⟨z.2.toArray⟩)) (⟨.mk g.b g.Fp g.Fk (C ++ z :: D) g.ks, some ⟨b, o, none⟩, pc, ka, kc⟩ :: T) U := by
 subst hi
 have ht := hs.hd
 obtain ⟨t1, f1⟩ := Top.setOne (g := g) ht (C.length * 2) (by show _ < g.ps.length * 2; rw [hp, List.length_append, List.length_cons]; omega) (.string ⟨z.1.toArray⟩) rfl (C ++ (z.1, m.2) :: D) (by
  show (pairsV g.ps).set _ _ = _
  rw [hp, pairsV_append, pairsV_append, pairsV_cons, pairsV_cons, List.set_append_right _ _ (by rw [pairsV_len]; omega), pairsV_len, Nat.sub_self]; rfl) (by show _ = g.ps.length; rw [hp]; simp)
 have e1 : o + C.length * 2 + 1 = o + (C.length * 2 + 1) := rfl
 obtain ⟨t2, f2⟩ := t1.setOne (C.length * 2 + 1) (by show _ < (C ++ (z.1, m.2) :: D).length * 2; rw [List.length_append, List.length_cons]; omega) (.string ⟨z.2.toArray⟩) rfl (C ++ z :: D) (pairsV_set C D z.1 m.2 z.2) (by show _ = (C ++ (z.1, m.2) :: D).length; simp)
 rw [← e1] at t2 f2
 have hf : Fr g.Fp W ((W.setCell ⟨b, o + C.length * 2, none⟩ (.string ⟨z.1.toArray⟩)).setCell ⟨b, o + C.length * 2 + 1, none⟩ (.string ⟨z.2.toArray⟩)) := f1.trans f2 (fun _ _ h => .inl h)
 have hl : (C ++ z :: D).length = g.ps.length := by rw [hp]; simp
 refine ⟨hs.rest hf (fun _ _ h => .inl (.inr (.inl h))), ?_, hs.one (t' := ⟨.mk g.b g.Fp g.Fk (C ++ z :: D) g.ks, some ⟨b, o, none⟩, pc, ka, kc⟩) hf (fun _ _ h => .inl (.inr (.inl h))) t2 (fun _ _ h => .inl h)⟩
 have := t2.c0
 rw [← hl]; exact this
theorem Sx.kidsEq {g : G} {pa : Option Addr} {pc : Nat} {ka : Option Addr} {kc : Nat} (hs : Sx w0 F W (⟨g, pa, pc, ka, kc⟩ :: T) U) {ks : List G} (e : kidsV ks = kidsV g.ks) : Sx w0 F W (⟨.mk g.b g.Fp g.Fk g.ps ks, pa, pc, ka, kc⟩ :: T) U :=
 hs.one (t' := ⟨.mk g.b g.Fp g.Fk g.ps ks, pa, pc, ka, kc⟩) (S := noCells) (Fr.refl _ _) (fun _ _ h => h.elim) (Top.kids_eq (g := g) hs.hd e) (fun _ _ h => .inl h)
theorem Sx.drop (hs : Sx w0 F W (t :: T) U) : Sx w0 F W T U :=
 ⟨⟨fun x hx => hs.st.top x (by simp; exact .inr (by simpa using hx)), hs.st.sub, (List.pairwise_cons.1 hs.st.sep).2, hs.st.fr, fun f hf => hs.st.ins f (List.mem_cons_of_mem _ hf)⟩, fun x hx => hs.top x (by simp [hx])⟩
theorem Sx.one_done {h : Nat} {g l l' : G} {A B : List G} {ga : Option Addr} {gc : Nat} {gka : Option Addr} {gkc : Nat} {la : Option Addr} {lc : Nat} {lka : Option Addr} {lkc : Nat}
  (hs : Sx w0 F W [⟨g, ga, gc, gka, gkc⟩, ⟨l', la, lc, lka, lkc⟩] (subsOf h l'.ks ++ (A ++ B).map fun k => (h, k))) (hg : g.ks = A ++ l :: B) (hl : l'.b = l.b) :
  ∃ g2 : G, g2.b = g.b ∧ g2.ps = g.ps ∧ g2.ks = A ++ l' :: B ∧ Nd W (h + 1) g2 ∧ Fr F w0 W ∧ Grew w0 F (foot (h + 1) g2) := by
 have h1 := hs.kidsEq (ks := A ++ l' :: B) (by rw [hg]; simp [kidsV, hl])
 have h2 : St w0 F W [l', .mk g.b g.Fp g.Fk g.ps (A ++ l' :: B)] (subsOf h l'.ks ++ (A ++ B).map fun k => (h, k)) := h1.st.perm (List.Perm.swap _ _ _) (List.Perm.refl _)
 obtain ⟨n1, n2, n3⟩ := St.close_ (h := h + 1) (h2.shut_.perm (List.Perm.refl _) (show List.Perm _ ((A ++ l' :: B).map fun k => (h, k)) by rw [List.map_append, List.map_append, List.map_cons]; exact List.perm_middle.symm))
 exact ⟨.mk g.b g.Fp g.Fk g.ps (A ++ l' :: B), rfl, rfl, rfl, n1, n2, n3⟩
theorem Sx.two_done {h : Nat} {g l r l' r' : G} {A B : List G} {ga : Option Addr} {gc : Nat} {gka : Option Addr} {gkc : Nat} {la : Option Addr} {lc : Nat} {lka : Option Addr} {lkc : Nat} {ra : Option Addr} {rc : Nat} {rka : Option Addr} {rkc : Nat}
  (hs : Sx w0 F W [⟨g, ga, gc, gka, gkc⟩, ⟨l', la, lc, lka, lkc⟩, ⟨r', ra, rc, rka, rkc⟩] (subsOf h (l'.ks ++ r'.ks) ++ (A ++ B).map fun k => (h, k))) (hg : g.ks = A ++ l :: r :: B) (hl : l'.b = l.b) (hr : r'.b = r.b) :
  ∃ g2 : G, g2.b = g.b ∧ g2.ps = g.ps ∧ g2.ks = A ++ l' :: r' :: B ∧ l'.b ≠ r'.b ∧ Nd W (h + 1) g2 ∧ Fr F w0 W ∧ Grew w0 F (foot (h + 1) g2) := by
 have h1 := hs.kidsEq (ks := A ++ l' :: r' :: B) (by rw [hg]; simp [kidsV, hl, hr])
 obtain ⟨n1, n2, n3⟩ := St.two_close (g' := .mk g.b g.Fp g.Fk g.ps (A ++ l' :: r' :: B)) rfl rfl rfl h1.st
 have hne : l'.b ≠ r'.b := Sx.ne (t := ⟨l', la, lc, lka, lkc⟩) (t' := ⟨r', ra, rc, rka, rkc⟩) (T := [⟨r', ra, rc, rka, rkc⟩, ⟨g, ga, gc, gka, gkc⟩]) (hs.perm (by simpa using (List.perm_append_comm (l₁ := [_]) (l₂ := [_, _]))) (List.Perm.refl _)) (by simp)
 exact ⟨.mk g.b g.Fp g.Fk g.ps (A ++ l' :: r' :: B), rfl, rfl, rfl, hne, n1, n2, n3⟩
theorem Sx.appP (hs : Sx w0 F W (t :: T) U) {n : Nat} (hn : t.g.ps.length = n) (hb : Below W.heap.size W E) {a2 : Option Addr} {m c2 : Nat} {L : List Pr} (hr : Rd E 2 a2 m c2 (pairsV L)) (hL : L.length = m) (hn2 : n + m ≤ 1000000) :
  ∃ a1 c1 F1 V, (Builtin.append_ #[169, 169] 169 #[.slice t.pa n t.pc, .slice a2 m c2]).run Tryz.prog E = .ok (.slice a1 (n + m) c1) V ∧ (V.cell? ⟨t.g.b, 0, none⟩ = some (.slice t.pa n t.pc) ∧ V.frozen? ⟨t.g.b, 0, none⟩ = false) ∧ (∀ t' ∈ T, TopX V t') ∧
   Sx w0 F (V.setCell ⟨t.g.b, 0, none⟩ (.slice a1 (n + m) c1)) (⟨.mk t.g.b F1 t.g.Fk (t.g.ps ++ L) t.g.ks, a1, c1, t.ka, t.kc⟩ :: T) U := by
 obtain ⟨i0, hi, hz0, hz1, hz2⟩ := info_parts Tryz.infoPair
 have ht := hs.hd
 have hgb : t.g.b < W.heap.size := block_of_cell ht.c0
 have hsp := ht.sp
 rw [hn] at hsp
 obtain ⟨a', c', V, F', hrun, hsl, hfr, hgr, hli⟩ := run_app_sl (P := Tryz.prog) 169 169 168 i0 _ 2 32 Tryz.underlying169 hi hz0 hz1 hz2 rfl (by decide) t.pa n t.pc _ (hsp.fr (Fr.ofBelow hb noCells) (fun _ _ _ h => h)) (ht.lp.later (Fr.ofBelow hb noCells)) a2 m c2 _ hr (by unfold maxLen; omega) (by omega)
 have fW : Fr t.g.Fp W V := (Fr.ofBelow hb _).trans hfr (fun _ _ h => .inl h)
 rw [← pairsV_append] at hsl
 obtain ⟨h1, h2, h3⟩ := ht.setP fW (fun _ _ h => .inl h) (show (t.g.ps ++ L).length = n + m by rw [List.length_append, hn, hL]) hsl (fun b o h => (hgr b o h).imp id (fun h => by have := hb.size; omega)) hli
 have d0 : V.cell? ⟨t.g.b, 0, none⟩ = _ := (fW.cell t.g.b 0 hgb (ht.bp 0)).trans ht.c0
 rw [hn] at d0
 exact ⟨a', c', F', V, hrun, ⟨d0, (fW.froz t.g.b 0 hgb (ht.bp 0)).trans ht.f0⟩, hs.rest fW (fun _ _ h => .inl (.inr (.inl h))), hs.one (t' := ⟨.mk t.g.b F' t.g.Fk (t.g.ps ++ L) t.g.ks, a', c', t.ka, t.kc⟩) h2 (fun _ _ h => .inl h) h1 h3⟩
theorem Sx.appK (hs : Sx w0 F W (t :: T) U) {n : Nat} (hn : t.g.ks.length = n) (hb : Below W.heap.size W E) {a2 : Option Addr} {m c2 : Nat} {L : List G} (hr : Rd E 1 a2 m c2 (kidsV L)) (hL : L.length = m) (hn2 : n + m ≤ 1000000) :
  ∃ a1 c1 F1 V, (Builtin.append_ #[170, 170] 170 #[.slice t.ka n t.kc, .slice a2 m c2]).run Tryz.prog E = .ok (.slice a1 (n + m) c1) V ∧ (V.cell? ⟨t.g.b, 1, none⟩ = some (.slice t.ka n t.kc) ∧ V.frozen? ⟨t.g.b, 1, none⟩ = false) ∧ (∀ t' ∈ T, TopX V t') ∧
   Sx w0 F (V.setCell ⟨t.g.b, 1, none⟩ (.slice a1 (n + m) c1)) (⟨.mk t.g.b t.g.Fp F1 t.g.ps (t.g.ks ++ L), t.pa, t.pc, a1, c1⟩ :: T) U := by
 obtain ⟨i0, hi, hz0, hz1, hz2⟩ := info_parts Tryz.infoNodeP
 have ht := hs.hd
 have hgb : t.g.b < W.heap.size := block_of_cell ht.c0
 have hsp := ht.sk
 rw [hn] at hsp
 obtain ⟨a', c', V, F', hrun, hsl, hfr, hgr, hli⟩ := run_app_sl (P := Tryz.prog) 170 170 152 i0 _ 1 8 Tryz.underlying170 hi hz0 hz1 hz2 rfl (by decide) t.ka n t.kc _ (hsp.fr (Fr.ofBelow hb noCells) (fun _ _ _ h => h)) (ht.lk.later (Fr.ofBelow hb noCells)) a2 m c2 _ hr (by unfold maxLen; omega) (by omega)
 have fW : Fr t.g.Fk W V := (Fr.ofBelow hb _).trans hfr (fun _ _ h => .inl h)
 rw [← kidsV_append] at hsl
 obtain ⟨h1, h2, h3⟩ := ht.setK fW (fun _ _ h => .inl h) (show (t.g.ks ++ L).length = n + m by rw [List.length_append, hn, hL]) hsl (fun b o h => (hgr b o h).imp id (fun h => by have := hb.size; omega)) hli
 have d0 : V.cell? ⟨t.g.b, 1, none⟩ = _ := (fW.cell t.g.b 1 hgb (ht.bk 1)).trans ht.c1
 rw [hn] at d0
 exact ⟨a', c', F', V, hrun, ⟨d0, (fW.froz t.g.b 1 hgb (ht.bk 1)).trans ht.f1⟩, hs.rest fW (fun _ _ h => .inl (.inr (.inr h))), hs.one (t' := ⟨.mk t.g.b t.g.Fp F' t.g.ps (t.g.ks ++ L), t.pa, t.pc, a', c'⟩) h2 (fun _ _ h => .inl h) h1 h3⟩
end
end Go.Proofs.YtecnijnmgdfdhaaGreat
