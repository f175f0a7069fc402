/- Joined: Tree15. -/
import Derived.Test.YtecnijnmgdfdhaaGreatYTree12
import Derived.Test.YtecnijnmgdfdhaaGreatYTree13
import Derived.Test.YtecnijnmgdfdhaaGreatYTree14
import Derived.Test.YtecnijnmgdfdhaaGreatYTr
namespace Go.Proofs.YtecnijnmgdfdhaaGreat
open Go.RowKit Tr
theorem fromLeft_any (h : Nat) (g l r : G) (A B : List G) (C D X : List Pr) (m z : Pr) (KX KY : List G) (i : Nat) (hi : i = C.length + 1) (hps : g.ps = C ++ m :: D) (hks : g.ks = A ++ l :: r :: B) (ha : A.length = C.length) (hlp : l.ps = X ++ [z]) (hlk : l.ks = KX ++ KY) (ax : Arity h X.length KX.length) (ay : Arity h 0 KY.length) (ar : Arity h r.ps.length r.ks.length)
  (b1 : g.ps.length ≤ 1000) (b2 : g.ks.length ≤ 1000) (b3 : l.ps.length ≤ 1000) (b4 : r.ps.length ≤ 1000) (b5 : l.ks.length ≤ 1000) (b6 : r.ks.length ≤ 1000) (w : World) (hn : Nd w (h + 1) g) :
  Calls Tryz.prog 160 #[ptrV g.b, .int .i64 i] w (TwoTo w h g (C ++ z :: D) A B X KX (m :: r.ps) (KY ++ r.ks)) := by
 cases h with
 | zero =>
  have hr : r.ks = [] := List.eq_nil_of_length_eq_zero ar
  obtain rfl : KX = [] := List.eq_nil_of_length_eq_zero ax
  obtain rfl : KY = [] := List.eq_nil_of_length_eq_zero ay
  rw [hr]
  exact fromLeft_leaf 0 g l r A B C D X m z i hi hps hks ha hlp hlk hr b1 b2 b3 b4 b5 b6 w hn
 | succ h =>
  have ay : KY.length = 1 := ay
  match KY, ay with
  | [y], _ => exact fromLeft_node (h + 1) g l r A B C D X m z i hi hps hks ha hlp KX y hlk ax b1 b2 b3 b4 b5 b6 w hn
theorem fromRight_any (h : Nat) (g l r : G) (A B : List G) (C D : List Pr) (m : Pr) (i : Nat) (hi : C.length = i) (hps : g.ps = C ++ m :: D) (hks : g.ks = A ++ l :: r :: B) (ha : A.length = C.length) (Y : List Pr) (z : Pr) (hrp : r.ps = z :: Y) (KX KY : List G) (hrk : r.ks = KX ++ KY) (ax : Arity h 0 KX.length) (ay : Arity h Y.length KY.length) (al : Arity h l.ps.length l.ks.length)
  (b1 : g.ps.length ≤ 1000) (b2 : g.ks.length ≤ 1000) (b3 : l.ps.length ≤ 1000) (b4 : r.ps.length ≤ 1000) (b5 : l.ks.length ≤ 1000) (b6 : r.ks.length ≤ 1000) (w : World) (hn : Nd w (h + 1) g) :
  Calls Tryz.prog 161 #[ptrV g.b, .int .i64 i] w (TwoTo w h g (C ++ z :: D) A B (l.ps ++ [m]) (l.ks ++ KX) Y KY) := by
 cases h with
 | zero =>
  have hl : l.ks = [] := List.eq_nil_of_length_eq_zero al
  obtain rfl : KX = [] := List.eq_nil_of_length_eq_zero ax
  obtain rfl : KY = [] := List.eq_nil_of_length_eq_zero ay
  rw [hl]
  exact fromRight_leaf 0 g l r A B C D m i hi hps hks ha Y z hrp hl hrk b1 b2 b3 b4 b5 b6 w hn
 | succ h =>
  have ax : KX.length = 1 := ax
  match KX, ax with
  | [y], _ => exact fromRight_node (h + 1) g l r A B C D m i hi hps hks ha Y z hrp KY y hrk b1 b2 b3 b4 b5 b6 w hn
def MendTo (w : World) (o h : Nat) (g : G) (e : Ending) (w' : World) : Prop := e = .returned (.tuple #[]) ∧ ∃ g', MendP o h g g' ∧ Nd w' (h + 1) g' ∧ Fr (foot (h + 1) g) w w' ∧ Grew w (foot (h + 1) g) (foot (h + 1) g')
theorem kid_cell {w : World} {h : Nat} {g k : G} (hn : Nd w (h + 1) g) (hk : k ∈ g.ks) : ∃ pa pc, w.cell? ⟨k.b, 0, none⟩ = some (.slice pa k.ps.length pc) := by
 obtain ⟨pa, pc, _, _, ht⟩ := (hn.2.1 k hk).1.top
 exact ⟨pa, pc, ht.c0⟩
theorem kid_get (A : List G) (k : G) (B : List G) : (A ++ k :: B)[A.length]? = some k := by simp
set_option maxHeartbeats 2000000 in
set_option maxRecDepth 100000 in
theorem mendC_fine (o h : Nat) (ho : 2 ≤ o) (ho2 : o ≤ 100) (g k : G) (A B : List G) (C D : List Pr) (i : Nat) (hi : i = (A : List G).length) (hnr : Near o h g (A) k (B)) (_hp : g.ps = (C) ++ (D)) (ha : (A : List G).length = (C : List Pr).length) (hk : o ≤ k.ps.length + 1) (hn1 : g.ps.length ≤ 500) (w : World) (hN : Nd w (h + 1) g) :
  Calls Tryz.prog 134 #[ptrV g.b, .int .i64 i, .int .i64 o] w (MendTo w o h g) := by
 obtain ⟨pa, pc, ka, kc, ht⟩ := hN.top
 have har := hnr.ar
 have hks := hnr.ks
 have hkm : g.ks[i]? = some k := by rw [hks, hi]; exact kid_get _ _ _
 obtain ⟨kb, ko, rfl, _⟩ := ht.kid hkm
 have d1 := ht.c1
 have e0 := (ht.kidAt hkm).1
 obtain ⟨ca, cc, c0⟩ := kid_cell hN (show k ∈ g.ks by rw [hks]; simp)
 have hkl : i < g.ks.length := (List.getElem?_eq_some_iff.1 hkm).1
 have HNR := Lib.hid hnr
 have HE : Hid (MendTo w o h g (.returned (.tuple #[])) w) := Lib.hid ⟨rfl, g, hnr.fine hk, hN, Fr.refl _ _, Grew.refl _ _⟩
 obtain ⟨nk, hnk⟩ : ∃ n, g.ks.length = n := ⟨_, rfl⟩
 obtain ⟨np, hnp⟩ : ∃ n, k.ps.length = n := ⟨_, rfl⟩
 rw [hnk] at d1 hkl
 rw [hnp] at c0 hk
 have hb1 : (np : Int) ≤ 300 := by have := hnr.hi; omega
 have hb2 : (o : Int) ≤ 100 := by omega
 have hb3 : (2 : Int) ≤ (o : Int) := by omega
 have hb4 : (0 : Int) ≤ (i : Int) := by omega
 have hb5 : (i : Int) < (nk : Int) := by omega
 have hb6 : (nk : Int) ≤ 1000 := by omega
 have hq1 : (o : Int) - 1 ≤ (np : Int) := by omega
 clear hN ht har hks hkm hnr _hp ha hk hn1 hnk hnp hi
 go_enter Tryz.func134, Tryz.ntmps134
 go_wp2
 go_end0
 exact HE.out
set_option maxHeartbeats 2000000 in
set_option maxRecDepth 100000 in
theorem mendC_left (o h : Nat) (ho : 2 ≤ o) (ho2 : o ≤ 100) (g k l : G) (A B : List G) (C D : List Pr) (ml : Pr) (i : Nat) (hi : i = (A ++ [l] : List G).length) (hnr : Near o h g (A ++ [l]) k (B)) (hp : g.ps = (C ++ [ml]) ++ (D)) (ha : (A ++ [l] : List G).length = (C ++ [ml] : List Pr).length) (hk : k.ps.length + 2 = o) (hlb : o ≤ l.ps.length) (hn1 : g.ps.length ≤ 500) (w : World) (hN : Nd w (h + 1) g) :
  Calls Tryz.prog 134 #[ptrV g.b, .int .i64 i, .int .i64 o] w (MendTo w o h g) := by
 obtain ⟨pa, pc, ka, kc, ht⟩ := hN.top
 have har := hnr.ar
 have hks := hnr.ks
 have hkm : g.ks[i]? = some k := by rw [hks, hi]; exact kid_get _ _ _
 obtain ⟨kb, ko, rfl, _⟩ := ht.kid hkm
 have d1 := ht.c1
 have e0 := (ht.kidAt hkm).1
 obtain ⟨ca, cc, c0⟩ := kid_cell hN (show k ∈ g.ks by rw [hks]; simp)
 have hks2 : g.ks = A ++ l :: k :: (B) := by rw [hks]; simp
 have hlm : g.ks[i - 1]? = some l := by rw [hks2, hi, List.length_append, List.length_singleton, Nat.add_sub_cancel]; exact kid_get _ _ _
 have el := (ht.kidAt hlm).1
 obtain ⟨la, lc, cl⟩ := kid_cell hN (show l ∈ g.ks by rw [hks2]; simp)
 have hil : i = A.length + 1 := by rw [hi]; simp
 have hkl : i < g.ks.length := (List.getElem?_eq_some_iff.1 hkm).1
 have HNR := Lib.hid hnr
 have hA := KidsL.append.1 hnr.a
 obtain ⟨kl1, kl2, kl3⟩ := KidsL.one.1 hA.2
 obtain ⟨X, z, KX, KY, x1, x2, x3, x4⟩ := last_split kl1 (by omega)
 have harl := (kids_iff o h l).1 kl1
 have hark := (kids_iff o h k).1 hnr.kid
 have hal : ∀ q : G, Tr.Kids o h q → q.ps.length ≤ 300 → q.ks.length ≤ 1000 := fun q hq hl => by
  have := ((kids_iff o h q).1 hq).1
  cases h with
  | zero => have : q.ks.length = 0 := this; omega
  | succ h => have : q.ks.length = q.ps.length + 1 := this; omega
 have HC : Hid (Calls Tryz.prog 160 #[ptrV g.b, .int .i64 i] w (MendTo w o h g)) := Lib.hid ((fromLeft_any h g l k A (B) C (D) X ml z KX KY i (by rw [hil]; have : (A ++ [l]).length = (C ++ [ml]).length := ha; simp at this; omega) (by rw [hp]; simp) hks2 (by have : (A ++ [l]).length = (C ++ [ml]).length := ha; simpa using this) x1 x2 x3 x4 hark.1 (by omega) (by omega) (by omega) (by have := hnr.hi; omega) (hal l kl1 (by omega)) (hal k hnr.kid (by have := hnr.hi; omega)) w hN).mono fun e w' hx => by
  obtain ⟨rfl, l', r', g', y1, y2, y3, y4, y5, y6, y7, y8, y9, y10, y11⟩ := hx
  refine ⟨rfl, g', mend_left hA.1 hnr.b kl1 hlb kl3 hnr.kid hk ho (by have : (A ++ [l]).length = (C ++ [ml]).length := ha; simpa using this) (by have := hnr.ar; rw [hks2, hp] at this; simp at this; have h2 : (A ++ [l]).length = (C ++ [ml]).length := ha; simp at h2; omega) (by rw [hp]; simp) hks2 x1 x2 x3 x4 y1 y2 y3 y5 y6 y7 y8, y9, y10, y11⟩)
 obtain ⟨nk, hnk⟩ : ∃ n, g.ks.length = n := ⟨_, rfl⟩
 obtain ⟨np, hnp⟩ : ∃ n, k.ps.length = n := ⟨_, rfl⟩
 rw [hnk] at d1 hkl
 rw [hnp] at c0 hk
 obtain ⟨nl, hnl⟩ : ∃ n, l.ps.length = n := ⟨_, rfl⟩
 rw [hnl] at cl
 have hb1 : (np : Int) ≤ 300 := by have := hnr.hi; omega
 have hb2 : (o : Int) ≤ 100 := by omega
 have hb3 : (2 : Int) ≤ (o : Int) := by omega
 have hb4 : (0 : Int) ≤ (i : Int) := by omega
 have hb5 : (i : Int) < (nk : Int) := by omega
 have hb6 : (nk : Int) ≤ 1000 := by omega
 have hq1 : (np : Int) < (o : Int) - 1 := by omega
 have hq2 : (0 : Int) < (i : Int) := by omega
 have hq3 : decide ((0 : Int) < (i : Int)) = true := by simp; omega
 have hq3b : decide (0 < i) = true := by simp; omega
 have hq4 : (0 : Int) ≤ (i : Int) - 1 := by omega
 have hq4b : (1 : Int) ≤ (i : Int) := by omega
 have hq5 : (i : Int) - 1 < (nk : Int) := by omega
 have hq6 : (o : Int) - 1 < (nl : Int) := by omega
 have hq6b : (nl : Int) ≤ 300 := by have := KidsL.one.1 (KidsL.append.1 hnr.a).2; omega
 clear hN ht har hks hkm hnr hp ha hk hn1 hnk hnp hi hks2 hlm hil hnl hlb hA kl1 kl2 kl3 x1 x2 x3 x4 harl hark hal
 go_enter Tryz.func134, Tryz.ntmps134
 go_wp2_with (go_at_call 160; refine (HC.out).mono ?_; rintro e W2 hx; have HE := Lib.hid hx; obtain ⟨rfl, _⟩ := hx)
 go_end0
 exact HE.out
set_option maxHeartbeats 2000000 in
set_option maxRecDepth 100000 in
theorem mendC_right0 (o h : Nat) (ho : 2 ≤ o) (ho2 : o ≤ 100) (g k r : G) (_A B : List G) (_C D : List Pr) (mr : Pr) (i : Nat) (hi : i = ([] : List G).length) (hnr : Near o h g ([]) k (r :: B)) (hp : g.ps = ([]) ++ (mr :: D)) (ha : ([] : List G).length = ([] : List Pr).length) (hk : k.ps.length + 2 = o) (hrb : o ≤ r.ps.length) (hn1 : g.ps.length ≤ 500) (w : World) (hN : Nd w (h + 1) g) :
  Calls Tryz.prog 134 #[ptrV g.b, .int .i64 i, .int .i64 o] w (MendTo w o h g) := by
 obtain ⟨pa, pc, ka, kc, ht⟩ := hN.top
 have har := hnr.ar
 have hks := hnr.ks
 have hkm : g.ks[i]? = some k := by rw [hks, hi]; exact kid_get _ _ _
 obtain ⟨kb, ko, rfl, _⟩ := ht.kid hkm
 have d1 := ht.c1
 have e0 := (ht.kidAt hkm).1
 obtain ⟨ca, cc, c0⟩ := kid_cell hN (show k ∈ g.ks by rw [hks]; simp)
 have hrm : g.ks[i + 1]? = some r := by rw [hks, hi, show ([]) ++ k :: r :: B = (([]) ++ [k]) ++ r :: B by simp, show ([] : List G).length + 1 = (([]) ++ [k]).length by simp]; exact kid_get _ _ _
 have er := (ht.kidAt hrm).1
 obtain ⟨ra, rc, cr⟩ := kid_cell hN (show r ∈ g.ks by rw [hks]; simp)
 have hrl : g.ks.length = i + 2 + B.length := by rw [hks, hi]; simp; omega
 have hkl : i < g.ks.length := (List.getElem?_eq_some_iff.1 hkm).1
 have HNR := Lib.hid hnr
 have hB := KidsL.cons.1 hnr.b
 obtain ⟨kr1, kr2, kr3⟩ := KidsL.one.1 hB.1
 obtain ⟨z, Y, KX, KY, x1, x2, x3, x4⟩ := first_split kr1 (by omega)
 have hark := (kids_iff o h k).1 hnr.kid
 have hal : ∀ q : G, Tr.Kids o h q → q.ps.length ≤ 300 → q.ks.length ≤ 1000 := fun q hq hl => by
  have := ((kids_iff o h q).1 hq).1
  cases h with
  | zero => have : q.ks.length = 0 := this; omega
  | succ h => have : q.ks.length = q.ps.length + 1 := this; omega
 have HC : Hid (Calls Tryz.prog 161 #[ptrV g.b, .int .i64 i] w (MendTo w o h g)) := Lib.hid ((fromRight_any h g k r ([]) B ([]) D mr i (by rw [hi]; exact ha.symm) hp hks ha Y z x1 KX KY x2 x3 x4 hark.1 (by omega) (by omega) (by have := hnr.hi; omega) (by omega) (hal k hnr.kid (by have := hnr.hi; omega)) (hal r kr1 (by omega)) w hN).mono fun e w' hx => by
  obtain ⟨rfl, l', r', g', y1, y2, y3, y4, y5, y6, y7, y8, y9, y10, y11⟩ := hx
  refine ⟨rfl, g', mend_right hnr.a hB.2 hnr.kid hk kr1 hrb kr3 ho ha (by have := hnr.ar; rw [hks, hp] at this; simp at this; have h2 := ha; simp at h2; omega) hp hks x1 x2 x3 x4 y1 y2 y3 y5 y6 y7 y8, y9, y10, y11⟩)
 obtain ⟨nk, hnk⟩ : ∃ n, g.ks.length = n := ⟨_, rfl⟩
 obtain ⟨np, hnp⟩ : ∃ n, k.ps.length = n := ⟨_, rfl⟩
 rw [hnk] at d1 hkl
 rw [hnp] at c0 hk
 obtain ⟨nr, hnrr⟩ : ∃ n, r.ps.length = n := ⟨_, rfl⟩
 rw [hnrr] at cr
 rw [hnk] at hrl
 have hb1 : (np : Int) ≤ 300 := by have := hnr.hi; omega
 have hb2 : (o : Int) ≤ 100 := by omega
 have hb3 : (2 : Int) ≤ (o : Int) := by omega
 have hb4 : (0 : Int) ≤ (i : Int) := by omega
 have hb5 : (i : Int) < (nk : Int) := by omega
 have hb6 : (nk : Int) ≤ 1000 := by omega
 have hq1 : (np : Int) < (o : Int) - 1 := by omega
 have hi0 : i = 0 := hi
 have hq2 : (i : Int) ≤ 0 := by omega
 have hq3 : decide ((0 : Int) < (i : Int)) = false := by simp; omega
 have hq3b : decide (0 < i) = false := by simp; omega
 clear hi0
 have hq7 : (i : Int) + 1 < (nk : Int) := by omega
 have hq8 : decide ((i : Int) + 1 < (nk : Int)) = true := by simp; omega
 have hq9 : (0 : Int) ≤ (i : Int) + 1 := by omega
 have hq10 : (o : Int) - 1 < (nr : Int) := by omega
 have hq10b : (nr : Int) ≤ 300 := by have := KidsL.one.1 (KidsL.cons.1 hnr.b).1; omega
 clear hN ht har hks hkm hnr hp ha hk hn1 hnk hnp hi hrm hnrr hrl hrb hB kr1 kr2 kr3 x1 x2 x3 x4 hark hal
 go_enter Tryz.func134, Tryz.ntmps134
 go_wp2_with (go_at_call 161; refine (HC.out).mono ?_; rintro e W2 hx; have HE := Lib.hid hx; obtain ⟨rfl, _⟩ := hx)
 go_end0
 exact HE.out
set_option maxHeartbeats 2000000 in
set_option maxRecDepth 100000 in
theorem mendC_right1 (o h : Nat) (ho : 2 ≤ o) (ho2 : o ≤ 100) (g k l r : G) (A B : List G) (C D : List Pr) (ml : Pr) (mr : Pr) (i : Nat) (hi : i = (A ++ [l] : List G).length) (hnr : Near o h g (A ++ [l]) k (r :: B)) (hp : g.ps = (C ++ [ml]) ++ (mr :: D)) (ha : (A ++ [l] : List G).length = (C ++ [ml] : List Pr).length) (hk : k.ps.length + 2 = o) (hls : l.ps.length + 1 = o) (hrb : o ≤ r.ps.length) (hn1 : g.ps.length ≤ 500) (w : World) (hN : Nd w (h + 1) g) :
  Calls Tryz.prog 134 #[ptrV g.b, .int .i64 i, .int .i64 o] w (MendTo w o h g) := by
 obtain ⟨pa, pc, ka, kc, ht⟩ := hN.top
 have har := hnr.ar
 have hks := hnr.ks
 have hkm : g.ks[i]? = some k := by rw [hks, hi]; exact kid_get _ _ _
 obtain ⟨kb, ko, rfl, _⟩ := ht.kid hkm
 have d1 := ht.c1
 have e0 := (ht.kidAt hkm).1
 obtain ⟨ca, cc, c0⟩ := kid_cell hN (show k ∈ g.ks by rw [hks]; simp)
 have hks2 : g.ks = A ++ l :: k :: (r :: B) := by rw [hks]; simp
 have hlm : g.ks[i - 1]? = some l := by rw [hks2, hi, List.length_append, List.length_singleton, Nat.add_sub_cancel]; exact kid_get _ _ _
 have el := (ht.kidAt hlm).1
 obtain ⟨la, lc, cl⟩ := kid_cell hN (show l ∈ g.ks by rw [hks2]; simp)
 have hil : i = A.length + 1 := by rw [hi]; simp
 have hrm : g.ks[i + 1]? = some r := by rw [hks, hi, show (A ++ [l]) ++ k :: r :: B = ((A ++ [l]) ++ [k]) ++ r :: B by simp, show (A ++ [l] : List G).length + 1 = ((A ++ [l]) ++ [k]).length by simp]; exact kid_get _ _ _
 have er := (ht.kidAt hrm).1
 obtain ⟨ra, rc, cr⟩ := kid_cell hN (show r ∈ g.ks by rw [hks]; simp)
 have hrl : g.ks.length = i + 2 + B.length := by rw [hks, hi]; simp; omega
 have hkl : i < g.ks.length := (List.getElem?_eq_some_iff.1 hkm).1
 have HNR := Lib.hid hnr
 have hB := KidsL.cons.1 hnr.b
 obtain ⟨kr1, kr2, kr3⟩ := KidsL.one.1 hB.1
 obtain ⟨z, Y, KX, KY, x1, x2, x3, x4⟩ := first_split kr1 (by omega)
 have hark := (kids_iff o h k).1 hnr.kid
 have hal : ∀ q : G, Tr.Kids o h q → q.ps.length ≤ 300 → q.ks.length ≤ 1000 := fun q hq hl => by
  have := ((kids_iff o h q).1 hq).1
  cases h with
  | zero => have : q.ks.length = 0 := this; omega
  | succ h => have : q.ks.length = q.ps.length + 1 := this; omega
 have HC : Hid (Calls Tryz.prog 161 #[ptrV g.b, .int .i64 i] w (MendTo w o h g)) := Lib.hid ((fromRight_any h g k r (A ++ [l]) B (C ++ [ml]) D mr i (by rw [hi]; exact ha.symm) hp hks ha Y z x1 KX KY x2 x3 x4 hark.1 (by omega) (by omega) (by have := hnr.hi; omega) (by omega) (hal k hnr.kid (by have := hnr.hi; omega)) (hal r kr1 (by omega)) w hN).mono fun e w' hx => by
  obtain ⟨rfl, l', r', g', y1, y2, y3, y4, y5, y6, y7, y8, y9, y10, y11⟩ := hx
  refine ⟨rfl, g', mend_right hnr.a hB.2 hnr.kid hk kr1 hrb kr3 ho ha (by have := hnr.ar; rw [hks, hp] at this; simp at this; have h2 := ha; simp at h2; omega) hp hks x1 x2 x3 x4 y1 y2 y3 y5 y6 y7 y8, y9, y10, y11⟩)
 obtain ⟨nk, hnk⟩ : ∃ n, g.ks.length = n := ⟨_, rfl⟩
 obtain ⟨np, hnp⟩ : ∃ n, k.ps.length = n := ⟨_, rfl⟩
 rw [hnk] at d1 hkl
 rw [hnp] at c0 hk
 obtain ⟨nl, hnl⟩ : ∃ n, l.ps.length = n := ⟨_, rfl⟩
 rw [hnl] at cl
 obtain ⟨nr, hnrr⟩ : ∃ n, r.ps.length = n := ⟨_, rfl⟩
 rw [hnrr] at cr
 rw [hnk] at hrl
 have hb1 : (np : Int) ≤ 300 := by have := hnr.hi; omega
 have hb2 : (o : Int) ≤ 100 := by omega
 have hb3 : (2 : Int) ≤ (o : Int) := by omega
 have hb4 : (0 : Int) ≤ (i : Int) := by omega
 have hb5 : (i : Int) < (nk : Int) := by omega
 have hb6 : (nk : Int) ≤ 1000 := by omega
 have hq1 : (np : Int) < (o : Int) - 1 := by omega
 have hq2 : (0 : Int) < (i : Int) := by omega
 have hq3 : decide ((0 : Int) < (i : Int)) = true := by simp; omega
 have hq3b : decide (0 < i) = true := by simp; omega
 have hq4 : (0 : Int) ≤ (i : Int) - 1 := by omega
 have hq4b : (1 : Int) ≤ (i : Int) := by omega
 have hq5 : (i : Int) - 1 < (nk : Int) := by omega
 have hq6 : ¬ ((o : Int) - 1 < (nl : Int)) := by omega
 have hq6c : (nl : Int) ≤ (o : Int) - 1 := by omega
 have hq6d : decide ((o : Int) - 1 < (nl : Int)) = false := by simp; omega
 have hq7 : (i : Int) + 1 < (nk : Int) := by omega
 have hq8 : decide ((i : Int) + 1 < (nk : Int)) = true := by simp; omega
 have hq9 : (0 : Int) ≤ (i : Int) + 1 := by omega
 have hq10 : (o : Int) - 1 < (nr : Int) := by omega
 have hq10b : (nr : Int) ≤ 300 := by have := KidsL.one.1 (KidsL.cons.1 hnr.b).1; omega
 clear hN ht har hks hkm hnr hp ha hk hn1 hnk hnp hi hks2 hlm hil hnl hrm hnrr hrl hls hrb hB kr1 kr2 kr3 x1 x2 x3 x4 hark hal
 go_enter Tryz.func134, Tryz.ntmps134
 go_wp2_with (go_at_call 161; refine (HC.out).mono ?_; rintro e W2 hx; have HE := Lib.hid hx; obtain ⟨rfl, _⟩ := hx)
 go_end0
 exact HE.out
set_option maxHeartbeats 2000000 in
set_option maxRecDepth 100000 in
theorem mendC_joinL0 (o h : Nat) (ho : 2 ≤ o) (ho2 : o ≤ 100) (g k l : G) (A _B : List G) (C _D : List Pr) (ml : Pr) (i : Nat) (hi : i = (A ++ [l] : List G).length) (hnr : Near o h g (A ++ [l]) k ([])) (hp : g.ps = (C ++ [ml]) ++ ([])) (ha : (A ++ [l] : List G).length = (C ++ [ml] : List Pr).length) (hk : k.ps.length + 2 = o) (hls : l.ps.length + 1 = o) (hn1 : g.ps.length ≤ 500) (w : World) (hN : Nd w (h + 1) g) :
  Calls Tryz.prog 134 #[ptrV g.b, .int .i64 i, .int .i64 o] w (MendTo w o h g) := by
 obtain ⟨pa, pc, ka, kc, ht⟩ := hN.top
 have har := hnr.ar
 have hks := hnr.ks
 have hkm : g.ks[i]? = some k := by rw [hks, hi]; exact kid_get _ _ _
 obtain ⟨kb, ko, rfl, _⟩ := ht.kid hkm
 have d1 := ht.c1
 have e0 := (ht.kidAt hkm).1
 obtain ⟨ca, cc, c0⟩ := kid_cell hN (show k ∈ g.ks by rw [hks]; simp)
 have hks2 : g.ks = A ++ l :: k :: ([]) := by rw [hks]; simp
 have hlm : g.ks[i - 1]? = some l := by rw [hks2, hi, List.length_append, List.length_singleton, Nat.add_sub_cancel]; exact kid_get _ _ _
 have el := (ht.kidAt hlm).1
 obtain ⟨la, lc, cl⟩ := kid_cell hN (show l ∈ g.ks by rw [hks2]; simp)
 have hil : i = A.length + 1 := by rw [hi]; simp
 have hrl : g.ks.length = i + 1 := by rw [hks, hi]; simp
 have hkl : i < g.ks.length := (List.getElem?_eq_some_iff.1 hkm).1
 have HNR := Lib.hid hnr
 have hA := KidsL.append.1 hnr.a
 obtain ⟨kl1, kl2, kl3⟩ := KidsL.one.1 hA.2
 have hal : ∀ q : G, Tr.Kids o h q → q.ps.length ≤ 300 → q.ks.length ≤ 1000 := fun q hq hl => by
  have := ((kids_iff o h q).1 hq).1
  cases h with
  | zero => have : q.ks.length = 0 := this; omega
  | succ h => have : q.ks.length = q.ps.length + 1 := this; omega
 have HC : Hid (∀ zz : Int, zz = (i : Int) - 1 → Calls Tryz.prog 162 #[ptrV g.b, .int .i64 zz] w (MendTo w o h g)) := Lib.hid (fun zz hz => by
  obtain rfl : zz = ((i - 1 : Nat) : Int) := by omega
  refine ((join_any h g l k A ([]) C ([]) ml (i - 1) (by have : (A ++ [l]).length = (C ++ [ml]).length := ha; simp at this; omega) (by rw [hp]; simp) hks2 (by have : (A ++ [l]).length = (C ++ [ml]).length := ha; simpa using this) (by omega) (by omega) (by omega) (by have := hnr.hi; omega) (hal l kl1 (by omega)) (hal k hnr.kid (by have := hnr.hi; omega)) w hN).mono fun e w' hx => ?_)
  obtain ⟨rfl, l', g', y1, y2, y3, y5, y6, y9, y10, y11⟩ := hx
  exact ⟨rfl, g', mend_join hA.1 hnr.b kl1 hnr.kid (by omega) (by omega) (by have : (A ++ [l]).length = (C ++ [ml]).length := ha; simpa using this) (by have := hnr.ar; rw [hks2, hp] at this; simp at this; have h2 : (A ++ [l]).length = (C ++ [ml]).length := ha; simp at h2; simp) (by rw [hp]; simp) hks2 y1 y2 y3 y5 y6, y9, y10, y11⟩)
 obtain ⟨nk, hnk⟩ : ∃ n, g.ks.length = n := ⟨_, rfl⟩
 obtain ⟨np, hnp⟩ : ∃ n, k.ps.length = n := ⟨_, rfl⟩
 rw [hnk] at d1 hkl
 rw [hnp] at c0 hk
 obtain ⟨nl, hnl⟩ : ∃ n, l.ps.length = n := ⟨_, rfl⟩
 rw [hnl] at cl
 rw [hnk] at hrl
 have hb1 : (np : Int) ≤ 300 := by have := hnr.hi; omega
 have hb2 : (o : Int) ≤ 100 := by omega
 have hb3 : (2 : Int) ≤ (o : Int) := by omega
 have hb4 : (0 : Int) ≤ (i : Int) := by omega
 have hb5 : (i : Int) < (nk : Int) := by omega
 have hb6 : (nk : Int) ≤ 1000 := by omega
 have hq1 : (np : Int) < (o : Int) - 1 := by omega
 have hq2 : (0 : Int) < (i : Int) := by omega
 have hq3 : decide ((0 : Int) < (i : Int)) = true := by simp; omega
 have hq3b : decide (0 < i) = true := by simp; omega
 have hq4 : (0 : Int) ≤ (i : Int) - 1 := by omega
 have hq4b : (1 : Int) ≤ (i : Int) := by omega
 have hq5 : (i : Int) - 1 < (nk : Int) := by omega
 have hq6 : ¬ ((o : Int) - 1 < (nl : Int)) := by omega
 have hq6c : (nl : Int) ≤ (o : Int) - 1 := by omega
 have hq6d : decide ((o : Int) - 1 < (nl : Int)) = false := by simp; omega
 have hq7 : (nk : Int) = (i : Int) + 1 := by omega
 have hq7b : (nk : Int) ≤ (i : Int) + 1 := by omega
 have hq8 : decide ((i : Int) + 1 < (nk : Int)) = false := by simp; omega
 clear hq7
 clear hN ht har hks hkm hnr hp ha hk hn1 hnk hnp hi hks2 hlm hil hnl hrl hls hA kl1 kl2 kl3 hal
 go_enter Tryz.func134, Tryz.ntmps134
 go_wp2_with (go_at_call 162; refine (HC.out _ (by omega)).mono ?_; rintro e W2 hx; have HE := Lib.hid hx; obtain ⟨rfl, _⟩ := hx)
 go_end0
 exact HE.out
set_option maxHeartbeats 2000000 in
set_option maxRecDepth 100000 in
theorem mendC_joinL1 (o h : Nat) (ho : 2 ≤ o) (ho2 : o ≤ 100) (g k l r : G) (A B : List G) (C D : List Pr) (ml : Pr) (mr : Pr) (i : Nat) (hi : i = (A ++ [l] : List G).length) (hnr : Near o h g (A ++ [l]) k (r :: B)) (hp : g.ps = (C ++ [ml]) ++ (mr :: D)) (ha : (A ++ [l] : List G).length = (C ++ [ml] : List Pr).length) (hk : k.ps.length + 2 = o) (hls : l.ps.length + 1 = o) (hrs : r.ps.length + 1 = o) (hn1 : g.ps.length ≤ 500) (w : World) (hN : Nd w (h + 1) g) :
  Calls Tryz.prog 134 #[ptrV g.b, .int .i64 i, .int .i64 o] w (MendTo w o h g) := by
 obtain ⟨pa, pc, ka, kc, ht⟩ := hN.top
 have har := hnr.ar
 have hks := hnr.ks
 have hkm : g.ks[i]? = some k := by rw [hks, hi]; exact kid_get _ _ _
 obtain ⟨kb, ko, rfl, _⟩ := ht.kid hkm
 have d1 := ht.c1
 have e0 := (ht.kidAt hkm).1
 obtain ⟨ca, cc, c0⟩ := kid_cell hN (show k ∈ g.ks by rw [hks]; simp)
 have hks2 : g.ks = A ++ l :: k :: (r :: B) := by rw [hks]; simp
 have hlm : g.ks[i - 1]? = some l := by rw [hks2, hi, List.length_append, List.length_singleton, Nat.add_sub_cancel]; exact kid_get _ _ _
 have el := (ht.kidAt hlm).1
 obtain ⟨la, lc, cl⟩ := kid_cell hN (show l ∈ g.ks by rw [hks2]; simp)
 have hil : i = A.length + 1 := by rw [hi]; simp
 have hrm : g.ks[i + 1]? = some r := by rw [hks, hi, show (A ++ [l]) ++ k :: r :: B = ((A ++ [l]) ++ [k]) ++ r :: B by simp, show (A ++ [l] : List G).length + 1 = ((A ++ [l]) ++ [k]).length by simp]; exact kid_get _ _ _
 have er := (ht.kidAt hrm).1
 obtain ⟨ra, rc, cr⟩ := kid_cell hN (show r ∈ g.ks by rw [hks]; simp)
 have hrl : g.ks.length = i + 2 + B.length := by rw [hks, hi]; simp; omega
 have hkl : i < g.ks.length := (List.getElem?_eq_some_iff.1 hkm).1
 have HNR := Lib.hid hnr
 have hA := KidsL.append.1 hnr.a
 obtain ⟨kl1, kl2, kl3⟩ := KidsL.one.1 hA.2
 have hal : ∀ q : G, Tr.Kids o h q → q.ps.length ≤ 300 → q.ks.length ≤ 1000 := fun q hq hl => by
  have := ((kids_iff o h q).1 hq).1
  cases h with
  | zero => have : q.ks.length = 0 := this; omega
  | succ h => have : q.ks.length = q.ps.length + 1 := this; omega
 have HC : Hid (∀ zz : Int, zz = (i : Int) - 1 → Calls Tryz.prog 162 #[ptrV g.b, .int .i64 zz] w (MendTo w o h g)) := Lib.hid (fun zz hz => by
  obtain rfl : zz = ((i - 1 : Nat) : Int) := by omega
  refine ((join_any h g l k A (r :: B) C (mr :: D) ml (i - 1) (by have : (A ++ [l]).length = (C ++ [ml]).length := ha; simp at this; omega) (by rw [hp]; simp) hks2 (by have : (A ++ [l]).length = (C ++ [ml]).length := ha; simpa using this) (by omega) (by omega) (by omega) (by have := hnr.hi; omega) (hal l kl1 (by omega)) (hal k hnr.kid (by have := hnr.hi; omega)) w hN).mono fun e w' hx => ?_)
  obtain ⟨rfl, l', g', y1, y2, y3, y5, y6, y9, y10, y11⟩ := hx
  exact ⟨rfl, g', mend_join hA.1 hnr.b kl1 hnr.kid (by omega) (by omega) (by have : (A ++ [l]).length = (C ++ [ml]).length := ha; simpa using this) (by have := hnr.ar; rw [hks2, hp] at this; simp at this; have h2 : (A ++ [l]).length = (C ++ [ml]).length := ha; simp at h2; simp; omega) (by rw [hp]; simp) hks2 y1 y2 y3 y5 y6, y9, y10, y11⟩)
 obtain ⟨nk, hnk⟩ : ∃ n, g.ks.length = n := ⟨_, rfl⟩
 obtain ⟨np, hnp⟩ : ∃ n, k.ps.length = n := ⟨_, rfl⟩
 rw [hnk] at d1 hkl
 rw [hnp] at c0 hk
 obtain ⟨nl, hnl⟩ : ∃ n, l.ps.length = n := ⟨_, rfl⟩
 rw [hnl] at cl
 obtain ⟨nr, hnrr⟩ : ∃ n, r.ps.length = n := ⟨_, rfl⟩
 rw [hnrr] at cr
 rw [hnk] at hrl
 have hb1 : (np : Int) ≤ 300 := by have := hnr.hi; omega
 have hb2 : (o : Int) ≤ 100 := by omega
 have hb3 : (2 : Int) ≤ (o : Int) := by omega
 have hb4 : (0 : Int) ≤ (i : Int) := by omega
 have hb5 : (i : Int) < (nk : Int) := by omega
 have hb6 : (nk : Int) ≤ 1000 := by omega
 have hq1 : (np : Int) < (o : Int) - 1 := by omega
 have hq2 : (0 : Int) < (i : Int) := by omega
 have hq3 : decide ((0 : Int) < (i : Int)) = true := by simp; omega
 have hq3b : decide (0 < i) = true := by simp; omega
 have hq4 : (0 : Int) ≤ (i : Int) - 1 := by omega
 have hq4b : (1 : Int) ≤ (i : Int) := by omega
 have hq5 : (i : Int) - 1 < (nk : Int) := by omega
 have hq6 : ¬ ((o : Int) - 1 < (nl : Int)) := by omega
 have hq6c : (nl : Int) ≤ (o : Int) - 1 := by omega
 have hq6d : decide ((o : Int) - 1 < (nl : Int)) = false := by simp; omega
 have hq7 : (i : Int) + 1 < (nk : Int) := by omega
 have hq8 : decide ((i : Int) + 1 < (nk : Int)) = true := by simp; omega
 have hq9 : (0 : Int) ≤ (i : Int) + 1 := by omega
 have hq10 : (nr : Int) ≤ (o : Int) - 1 := by omega
 have hq10d : decide ((o : Int) - 1 < (nr : Int)) = false := by simp; omega
 clear hN ht har hks hkm hnr hp ha hk hn1 hnk hnp hi hks2 hlm hil hnl hrm hnrr hrl hls hrs hA kl1 kl2 kl3 hal
 go_enter Tryz.func134, Tryz.ntmps134
 go_wp2_with (go_at_call 162; refine (HC.out _ (by omega)).mono ?_; rintro e W2 hx; have HE := Lib.hid hx; obtain ⟨rfl, _⟩ := hx)
 go_end0
 exact HE.out
set_option maxHeartbeats 2000000 in
set_option maxRecDepth 100000 in
theorem mendC_joinR (o h : Nat) (ho : 2 ≤ o) (ho2 : o ≤ 100) (g k r : G) (_A B : List G) (_C D : List Pr) (mr : Pr) (i : Nat) (hi : i = ([] : List G).length) (hnr : Near o h g ([]) k (r :: B)) (hp : g.ps = ([]) ++ (mr :: D)) (ha : ([] : List G).length = ([] : List Pr).length) (hk : k.ps.length + 2 = o) (hrs : r.ps.length + 1 = o) (hn1 : g.ps.length ≤ 500) (w : World) (hN : Nd w (h + 1) g) :
  Calls Tryz.prog 134 #[ptrV g.b, .int .i64 i, .int .i64 o] w (MendTo w o h g) := by
 obtain ⟨pa, pc, ka, kc, ht⟩ := hN.top
 have har := hnr.ar
 have hks := hnr.ks
 have hkm : g.ks[i]? = some k := by rw [hks, hi]; exact kid_get _ _ _
 obtain ⟨kb, ko, rfl, _⟩ := ht.kid hkm
 have d1 := ht.c1
 have e0 := (ht.kidAt hkm).1
 obtain ⟨ca, cc, c0⟩ := kid_cell hN (show k ∈ g.ks by rw [hks]; simp)
 have hrm : g.ks[i + 1]? = some r := by rw [hks, hi, show ([]) ++ k :: r :: B = (([]) ++ [k]) ++ r :: B by simp, show ([] : List G).length + 1 = (([]) ++ [k]).length by simp]; exact kid_get _ _ _
 have er := (ht.kidAt hrm).1
 obtain ⟨ra, rc, cr⟩ := kid_cell hN (show r ∈ g.ks by rw [hks]; simp)
 have hrl : g.ks.length = i + 2 + B.length := by rw [hks, hi]; simp; omega
 have hkl : i < g.ks.length := (List.getElem?_eq_some_iff.1 hkm).1
 have HNR := Lib.hid hnr
 have hB := KidsL.cons.1 hnr.b
 obtain ⟨kr1, kr2, kr3⟩ := KidsL.one.1 hB.1
 have hal : ∀ q : G, Tr.Kids o h q → q.ps.length ≤ 300 → q.ks.length ≤ 1000 := fun q hq hl => by
  have := ((kids_iff o h q).1 hq).1
  cases h with
  | zero => have : q.ks.length = 0 := this; omega
  | succ h => have : q.ks.length = q.ps.length + 1 := this; omega
 have HC : Hid (Calls Tryz.prog 162 #[ptrV g.b, .int .i64 i] w (MendTo w o h g)) := Lib.hid ((join_any h g k r ([]) B ([]) D mr i (by rw [hi]; exact ha.symm) hp hks ha (by omega) (by omega) (by have := hnr.hi; omega) (by omega) (hal k hnr.kid (by have := hnr.hi; omega)) (hal r kr1 (by omega)) w hN).mono fun e w' hx => by
  obtain ⟨rfl, l', g', y1, y2, y3, y5, y6, y9, y10, y11⟩ := hx
  exact ⟨rfl, g', mend_join hnr.a hB.2 hnr.kid kr1 (by omega) (by omega) ha (by have := hnr.ar; rw [hks, hp] at this; simp at this; omega) hp hks y1 y2 y3 y5 y6, y9, y10, y11⟩)
 obtain ⟨nk, hnk⟩ : ∃ n, g.ks.length = n := ⟨_, rfl⟩
 obtain ⟨np, hnp⟩ : ∃ n, k.ps.length = n := ⟨_, rfl⟩
 rw [hnk] at d1 hkl
 rw [hnp] at c0 hk
 obtain ⟨nr, hnrr⟩ : ∃ n, r.ps.length = n := ⟨_, rfl⟩
 rw [hnrr] at cr
 rw [hnk] at hrl
 have hb1 : (np : Int) ≤ 300 := by have := hnr.hi; omega
 have hb2 : (o : Int) ≤ 100 := by omega
 have hb3 : (2 : Int) ≤ (o : Int) := by omega
 have hb4 : (0 : Int) ≤ (i : Int) := by omega
 have hb5 : (i : Int) < (nk : Int) := by omega
 have hb6 : (nk : Int) ≤ 1000 := by omega
 have hq1 : (np : Int) < (o : Int) - 1 := by omega
 have hi0 : i = 0 := hi
 have hq2 : (i : Int) ≤ 0 := by omega
 have hq3 : decide ((0 : Int) < (i : Int)) = false := by simp; omega
 have hq3b : decide (0 < i) = false := by simp; omega
 clear hi0
 have hq7 : (i : Int) + 1 < (nk : Int) := by omega
 have hq8 : decide ((i : Int) + 1 < (nk : Int)) = true := by simp; omega
 have hq9 : (0 : Int) ≤ (i : Int) + 1 := by omega
 have hq10 : (nr : Int) ≤ (o : Int) - 1 := by omega
 have hq10d : decide ((o : Int) - 1 < (nr : Int)) = false := by simp; omega
 clear hN ht har hks hkm hnr hp ha hk hn1 hnk hnp hi hrm hnrr hrl hrs hB kr1 kr2 kr3 hal
 go_enter Tryz.func134, Tryz.ntmps134
 go_wp2_with (go_at_call 162; refine (HC.out).mono ?_; rintro e W2 hx; have HE := Lib.hid hx; obtain ⟨rfl, _⟩ := hx)
 go_end0
 exact HE.out
end Go.Proofs.YtecnijnmgdfdhaaGreat
