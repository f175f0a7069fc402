/- Joined: Tbdoc1, Tbdoc2, Tbdoc3. -/
import Derived.Test.YtecnijnmgdfdhaaGreatYTab13
import Derived.StillTailTactics
namespace Go.Proofs.YtecnijnmgdfdhaaGreat
namespace Tb
open Go.RowKit Tr
open Ky (less)
def rowsV (L : List Pr) : List Value := L.flatMap fun p => .string ⟨p.1.toArray⟩ :: r4V (decT p.2)
theorem rowsV_cons (p : Pr) (L : List Pr) : rowsV (p :: L) = .string ⟨p.1.toArray⟩ :: .int .i64 (decT p.2).1 :: .int .i64 (decT p.2).2.1 :: .int .i64 (decT p.2).2.2.1 :: .int .i64 (decT p.2).2.2.2 :: rowsV L := rfl
theorem rowsV_append (A B : List Pr) : rowsV (A ++ B) = rowsV A ++ rowsV B := by simp [rowsV]
theorem rowsV_take : ∀ (L : List Pr) (n : Nat), (rowsV L).take (n * 5) = rowsV (L.take n)
 | [], n => by simp [rowsV]
 | p :: L, 0 => by simp [rowsV]
 | p :: L, n + 1 => by
  rw [List.take_succ_cons, rowsV_cons, rowsV_cons, ← rowsV_take L n, show (n + 1) * 5 = n * 5 + 1 + 1 + 1 + 1 + 1 by omega]
  simp only [List.take_succ_cons]
theorem rowsV_drop : ∀ (L : List Pr) (n : Nat), (rowsV L).drop (n * 5) = rowsV (L.drop n)
 | [], n => by simp [rowsV]
 | p :: L, 0 => by simp [rowsV]
 | p :: L, n + 1 => by
  rw [List.drop_succ_cons, rowsV_cons, ← rowsV_drop L n, show (n + 1) * 5 = n * 5 + 1 + 1 + 1 + 1 + 1 by omega]
  simp only [List.drop_succ_cons]
theorem rowsV_get {L : List Pr} {i : Nat} {p : Pr} (h : L[i]? = some p) : (rowsV L)[i * 5]? = some (.string ⟨p.1.toArray⟩) ∧ (rowsV L)[i * 5 + 1]? = some (.int .i64 (decT p.2).1) ∧ (rowsV L)[i * 5 + 2]? = some (.int .i64 (decT p.2).2.1) ∧ (rowsV L)[i * 5 + 3]? = some (.int .i64 (decT p.2).2.2.1) ∧ (rowsV L)[i * 5 + 4]? = some (.int .i64 (decT p.2).2.2.2) := by
 have h1 := rowsV_drop L i
 obtain ⟨hi, rfl⟩ := List.getElem?_eq_some_iff.1 h
 rw [List.drop_eq_getElem_cons hi, rowsV_cons] at h1
 have key : ∀ k, (rowsV L)[i * 5 + k]? = ((rowsV L).drop (i * 5))[k]? := fun k => by rw [List.getElem?_drop]
 have k0 := key 0
 rw [Nat.add_zero] at k0
 rw [k0, key 1, key 2, key 3, key 4, h1]
 exact ⟨rfl, rfl, rfl, rfl, rfl⟩
structure Tdl (w : World) (r : Nat) (F : Foot) (a : Option Addr) (c : Nat) (most : Nat) (L : List Pr) : Prop where
 c0 : w.cell? ⟨r, 0, none⟩ = some (.slice a L.length c)
 f0 : w.frozen? ⟨r, 0, none⟩ = false
 c1 : w.cell? ⟨r, 1, none⟩ = some (.int .i64 most)
 sl : Sl w 5 F a L.length c (rowsV L)
 rf : ∀ x, ¬ F r x
 lf : Lies w F
def lstF (r : Nat) (F : Foot) : Foot := fun k x => k = r ∨ F k x
section
variable {w V : World} {r : Nat} {F : Foot} {a : Option Addr} {c most : Nat} {L : List Pr}
theorem Tdl.fr {S : Foot} {w' : World} (h : Tdl w r F a c most L) (hf : Fr S w w') (hd : Apart (lstF r F) S) : Tdl w' r F a c most L := by
 have hb := block_of_cell h.c0
 exact ⟨(hf.cell _ _ hb (hd _ _ (.inl rfl))).trans h.c0, (hf.froz _ _ hb (hd _ _ (.inl rfl))).trans h.f0, (hf.cell _ _ hb (hd _ _ (.inl rfl))).trans h.c1, h.sl.fr hf (fun b x hx => hd b x (.inr hx)), h.rf, h.lf.later hf⟩
theorem Tdl.later {w' : World} (h : Tdl w r F a c most L) (hb : Below w.heap.size w w') : Tdl w' r F a c most L := h.fr (Fr.ofBelow hb noCells) (fun _ _ _ h => h)
theorem Tdl.lies (h : Tdl w r F a c most L) : Lies w (lstF r F) := fun k x hx => by
 rcases hx with rfl | hx
 ·exact block_of_cell h.c0
 ·exact h.lf k x hx
theorem Tdl.row (h : Tdl w r F a c most L) {i : Nat} {p : Pr} (hp : L[i]? = some p) :
  ∃ b o, a = some ⟨b, o, none⟩ ∧ w.cell? ⟨b, o + i * 5, none⟩ = some (.string ⟨p.1.toArray⟩) ∧ w.cell? ⟨b, o + i * 5 + 1, none⟩ = some (.int .i64 (decT p.2).1) ∧ w.cell? ⟨b, o + i * 5 + 2, none⟩ = some (.int .i64 (decT p.2).2.1) ∧ w.cell? ⟨b, o + i * 5 + 3, none⟩ = some (.int .i64 (decT p.2).2.2.1) ∧ w.cell? ⟨b, o + i * 5 + 4, none⟩ = some (.int .i64 (decT p.2).2.2.2) := by
 have hi := (List.getElem?_eq_some_iff.1 hp).1
 obtain ⟨b, o, e, h1, h2, h3⟩ := h.sl.addr (by omega)
 obtain ⟨g0, g1, g2, g3, g4⟩ := rowsV_get hp
 have k1 := h2 _ _ g1
 have k2 := h2 _ _ g2
 have k3 := h2 _ _ g3
 have k4 := h2 _ _ g4
 rw [← Nat.add_assoc] at k1 k2 k3 k4
 exact ⟨b, o, e, h2 _ _ g0, k1, k2, k3, k4⟩
end
def DocR (r most : Nat) (L : List Pr) : Rs where
 R w F := ∃ F0 a c, Tdl w r F0 a c most L ∧ F = lstF r F0
 fr := fun ⟨F0, a, c, t, hF⟩ hf ha => ⟨F0, a, c, t.fr hf (by rw [← hF]; exact ha), hF⟩
 lies := fun ⟨F0, a, c, t, hF⟩ => by rw [hF]; exact t.lies
theorem rightD_any (k : Str) (w : World) :
  Calls Tryz.prog 65 #[.string ⟨k.toArray⟩] w fun e w' => e = .returned (.bool (Ks.okKey k)) ∧ w = w' := by
 by_cases h1 : 1 ≤ k.length
 ·by_cases h2 : k.length ≤ 16
  ·have hc : Ks.okKey k = true := by unfold Ks.okKey; simp; omega
   have k1 : (1 : Int) ≤ (k.length : Int) := by omega
   have k2 : (k.length : Int) ≤ 16 := by omega
   rw [hc]
   clear hc h1 h2
   go_enter Tryz.func65, Tryz.ntmps65
   go_wp2
   go_ret
   exact ⟨rfl, rfl⟩
  ·have hc : Ks.okKey k = false := by unfold Ks.okKey; simp; omega
   have k1 : (1 : Int) ≤ (k.length : Int) := by omega
   have k2 : ¬ (k.length : Int) ≤ 16 := by omega
   rw [hc]
   clear hc h1 h2
   go_enter Tryz.func65, Tryz.ntmps65
   go_wp2
   go_ret
   exact ⟨rfl, rfl⟩
 ·have hc : Ks.okKey k = false := by unfold Ks.okKey; simp; omega
  have k1 : ¬ (1 : Int) ≤ (k.length : Int) := by omega
  rw [hc]
  clear hc h1
  go_enter Tryz.func65, Tryz.ntmps65
  go_wp2
  go_ret
  exact ⟨rfl, rfl⟩
set_option maxHeartbeats 1000000 in
theorem atD_any (r : Nat) (F : Foot) (a : Option Addr) (c most : Nat) (L : List Pr) (key : Str) (hn : L.length ≤ 1000000) (w : World) (h : Tdl w r F a c most L) :
  Calls Tryz.prog 67 #[ptrV r, .string ⟨key.toArray⟩] w fun e V => e = .returned (.int .i64 (pl key L : Nat)) ∧ w = V := by
 have c0 := h.c0
 obtain ⟨P, hP⟩ : ∃ P, pl key L = P := ⟨_, rfl⟩
 obtain ⟨n, hL⟩ : ∃ n, L.length = n := ⟨_, rfl⟩
 rw [hL] at c0 hn
 have HP := Lib.hid hP
 have HL := Lib.hid hL
 have HH := Lib.hid h
 rw [hP]
 have hn2 : (n : Int) ≤ 1000000 := by omega
 clear hP hL h
 go_enter Tryz.func67, Tryz.ntmps67
 go_wp2
 go_loopw [5] (fun v wr => ∃ k : Nat, v = .int .i64 k ∧ k ≤ n ∧ wr = w ∧ Hid (∀ j p, j < k → L[j]? = some p → less p.1 key = true)) (fun v _ => n - (intOf v).toNat)
 case atStart => exact ⟨0, rfl, by omega, rfl, Lib.hid (fun j p hj => by omega)⟩
 case round =>
  obtain ⟨k, rfl, hk, rfl, HJ⟩ := hrel
  by_cases hlt : k < n
  ·obtain ⟨p, hp⟩ : ∃ p, L[k]? = some p := ⟨_, List.getElem?_eq_getElem (by rw [HL.out]; exact hlt)⟩
   obtain ⟨b, o, rfl, p1, _⟩ := HH.out.row hp
   have hq := str_lss 9 p.1 key
   have hk0 : (0 : Int) ≤ (k : Int) := by omega
   have hk1 : (k : Int) < (n : Int) := by omega
   have HG := Lib.hid hp
   cases hl : Op.bytesLess p.1 key with
   | true =>
    rw [hl] at hq
    have HJ2 : Hid (∀ j q, j < k + 1 → L[j]? = some q → less q.1 key = true) := Lib.hid (fun j q hj hq => by
     by_cases e : j = k
     ·subst e; rw [hp] at hq; cases hq; exact hl
     ·exact HJ.out j q (by omega) hq)
    clear hp hl
    go_wp2
    refine ⟨⟨k + 1, ?_, by omega, trivial, HJ2⟩, ?_⟩
    ·first | rfl | simp
    ·simp [intOf]; omega
   | false =>
    rw [hl] at hq
    have HE : Hid (P = k) := Lib.hid (by rw [← HP.out]; exact pl_of (by rw [HL.out]; omega) HJ.out (fun q hq => by rw [hp] at hq; cases hq; exact hl))
    clear hp hl
    go_wp2
    go_ret
    rw [HE.out]
    exact ⟨rfl, rfl⟩
  ·have hkn : k = n := by omega
   have HE : Hid (P = k) := Lib.hid (by rw [← HP.out]; exact pl_of (by rw [HL.out]; omega) HJ.out (fun q hq => by rw [List.getElem?_eq_none (by rw [HL.out]; omega)] at hq; cases hq))
   have hk1 : ¬ (k : Int) < (n : Int) := by omega
   clear hkn
   go_wp2
   go_ret
   rw [HE.out]
   exact ⟨rfl, rfl⟩
set_option maxHeartbeats 1000000 in
theorem hasD_any (r : Nat) (F : Foot) (a : Option Addr) (c most : Nat) (L : List Pr) (key : Str) (hn : L.length ≤ 1000000) (w : World) (h : Tdl w r F a c most L) :
  Calls Tryz.prog 66 #[ptrV r, .string ⟨key.toArray⟩] w fun e V => e = .returned (.bool (hasAt key L)) ∧ w = V := by
 have c0 := h.c0
 have HA := Lib.hid (atD_any r F a c most L key hn w h)
 obtain ⟨P, hP⟩ : ∃ P, pl key L = P := ⟨_, rfl⟩
 obtain ⟨n, hL⟩ : ∃ n, L.length = n := ⟨_, rfl⟩
 rw [hL] at c0 hn
 rw [hP] at HA
 have hn2 : (n : Int) ≤ 1000000 := by omega
 by_cases hlt : P < n
 ·obtain ⟨p, hp⟩ : ∃ p, L[P]? = some p := ⟨_, List.getElem?_eq_getElem (by rw [hL]; exact hlt)⟩
  obtain ⟨b, o, rfl, p1, _⟩ := h.row hp
  have hq := str_eql 9 p.1 key
  have HE : Hid (hasAt key L = (p.1 == key)) := Lib.hid (by unfold hasAt; rw [hP, hp])
  have hk0 : (0 : Int) ≤ (P : Int) := by omega
  have hk1 : (P : Int) < (n : Int) := by omega
  obtain ⟨v, hv⟩ : ∃ v, hasAt key L = v := ⟨_, rfl⟩
  rw [← HE.out, hv] at hq
  rw [hv]
  clear hP hL h hp HE hv
  go_enter Tryz.func66, Tryz.ntmps66
  go_wp2_with (go_at_call 67; refine HA.out.mono ?_; rintro e V ⟨rfl, rfl⟩)
  go_ret
  exact ⟨rfl, rfl⟩
 ·have HE : Hid (hasAt key L = false) := Lib.hid (by unfold hasAt; rw [hP, List.getElem?_eq_none (by rw [hL]; omega)])
  have hk1 : ¬ (P : Int) < (n : Int) := by omega
  rw [HE.out]
  clear hP hL h HE
  go_enter Tryz.func66, Tryz.ntmps66
  go_wp2_with (go_at_call 67; refine HA.out.mono ?_; rintro e V ⟨rfl, rfl⟩)
  go_ret
  exact ⟨rfl, rfl⟩
theorem get_at {key : Str} {L : List Pr} {v : Str} (h : get key L = some v) : L[pl key L]? = some (key, v) := by
 have h1 := get_ceil key L
 rw [h, ceil_place] at h1
 cases hq : L[pl key L]? with
 | none => rw [hq] at h1; cases h1
 | some q =>
  rw [hq] at h1
  simp only at h1
  split at h1
  ·next e => cases h1; rw [← e]
  ·cases h1
theorem has_get (key : Str) (L : List Pr) : hasAt key L = (get key L).isSome := by
 have h1 := get_ceil key L
 rw [ceil_place] at h1
 unfold hasAt
 rw [h1]
 cases L[pl key L]? with
 | none => rfl
 | some q => by_cases e : q.1 = key <;> simp [e]
theorem del_at {key : Str} {L : List Pr} {v : Str} (h : get key L = some v) : del key L = L.take (pl key L) ++ L.drop (pl key L + 1) := by
 have := del_place key L
 rwa [h, if_neg (by simp)] at this
end Tb
end Go.Proofs.YtecnijnmgdfdhaaGreat

namespace Go.Proofs.YtecnijnmgdfdhaaGreat
namespace Tb
open Go.RowKit Tr
open Ky (less)
theorem cell_drew (w : World) (p : Addr) : w.drew.cell? p = w.cell? p := rfl
section
variable {r : Nat} {F : Foot} {a : Option Addr} {c most : Nat} {L : List Pr}
set_option maxHeartbeats 4000000 in
set_option maxRecDepth 100000 in
theorem getD_any (key : Str) (hn : L.length ≤ 1000000) (w : World) (h : Tdl w r F a c most L) :
  Calls Tryz.prog 41 #[ptrV r, .string ⟨key.toArray⟩] w fun e V => e = .returned (.tuple #[rowW (getR key L), .int .i64 (getE key L)]) ∧ Below w.heap.size w V := by
 have HR := Lib.hid (fun W => rightD_any key W)
 have hZ := own_newRow (Own.nil w) zr 41
 have hb1 := al1 w (.cells #[.int .i64 zr.1, .int .i64 zr.2.1, .int .i64 zr.2.2.1, .int .i64 zr.2.2.2] 41)
 obtain ⟨W1, hW1⟩ : ∃ W1, w.alloc (.cells #[.int .i64 0, .int .i64 0, .int .i64 0, .int .i64 0] 41) = W1 := ⟨_, rfl⟩
 have hZ : Own w.heap.size w [CellsR w.heap.size (r4V zr)] W1 := by rw [← hW1]; exact hZ
 have hb1 : Below w.heap.size w W1 := by rw [← hW1]; exact hb1
 have HZ := Lib.hid (fun V (hb : Below W1.heap.size W1 V) => own_zero (hZ.later hb))
 have HB1 := Lib.hid (fun V (hb : Below W1.heap.size W1 V) => hb1.trans (hb.mono hb1.size))
 have hv := HZ.out _ (Below.refl _ _)
 have f0 := (hv 0 (by omega)).1
 have g0 := (hv 0 (by omega)).2
 have f1 := (hv 1 (by omega)).1
 have g1 := (hv 1 (by omega)).2
 have f2 := (hv 2 (by omega)).1
 have g2 := (hv 2 (by omega)).2
 have f3 := (hv 3 (by omega)).1
 have g3 := (hv 3 (by omega)).2
 unfold getR getE
 cases hkey : Ks.okKey key with
 | false =>
  rw [hkey] at HR
  clear h
  go_enter Tryz.func41, Tryz.ntmps41
  go_wp2_with (go_at_call 65; refine (HR.out _).mono ?_; rintro e V ⟨rfl, rfl⟩)
  have t4 := Rw.four_set W1 w.heap.size [] (.int .i64 0) (.int .i64 0) (.int .i64 0) (.int .i64 0) hv
  refine bodyPost_ret (v := .tuple #[rowW zr, .int .i64 13]) (by simp [results, Tryz.results41, go_sem, t4.1, t4.2.1, t4.2.2.1, t4.2.2.2, rowW, zr]) rfl ?_
  exact ⟨rfl, (HB1.out _ (Below.refl _ _)).trans (((four_fr w.heap.size _ _ _ _ W1).below (Nat.le_trans (HB1.out _ (Below.refl _ _)).size (Nat.le_refl _)) (fun b o e => by rw [e]; exact Nat.le_refl _)))⟩
 | true =>
  rw [hkey] at HR
  have HH := Lib.hid (hasD_any r F a c most L key hn W1 (h.later hb1))
  rw [has_get] at HH
  cases hg : get key L with
  | none =>
   rw [hg] at HH
   clear h hg
   go_enter Tryz.func41, Tryz.ntmps41
   go_wp2_with (first
    | (go_at_call 65; refine (HR.out _).mono ?_; rintro e V ⟨rfl, rfl⟩)
    | (go_at_call 66; refine HH.out.mono ?_; rintro e V ⟨rfl, rfl⟩))
   have t4 := Rw.four_set W1 w.heap.size [] (.int .i64 0) (.int .i64 0) (.int .i64 0) (.int .i64 0) hv
   refine bodyPost_ret (v := .tuple #[rowW zr, .int .i64 14]) (by simp [results, Tryz.results41, go_sem, t4.1, t4.2.1, t4.2.2.1, t4.2.2.2, rowW, zr]) rfl ?_
   exact ⟨rfl, (HB1.out _ (Below.refl _ _)).trans (((four_fr w.heap.size _ _ _ _ W1).below (Nat.le_trans (HB1.out _ (Below.refl _ _)).size (Nat.le_refl _)) (fun b o e => by rw [e]; exact Nat.le_refl _)))⟩
  | some s =>
   rw [hg] at HH
   have hp := get_at hg
   have hlt := (List.getElem?_eq_some_iff.1 hp).1
   obtain ⟨b, o, rfl, _, p1, p2, p3, p4⟩ := (h.later hb1).row hp
   have hA := atD_any r F _ c most L key hn W1.drew (((h.later hb1).later (below_drewN W1 1)))
   obtain ⟨P, hP⟩ : ∃ P, pl key L = P := ⟨_, rfl⟩
   obtain ⟨n, hL⟩ : ∃ n, L.length = n := ⟨_, rfl⟩
   have c0 := (h.later hb1).c0
   rw [hP] at hA p1 p2 p3 p4 hlt
   rw [hL] at c0 hlt hn
   have HA := Lib.hid hA
   have hk0 : (0 : Int) ≤ (P : Int) := by omega
   have hk1 : (P : Int) < (n : Int) := by omega
   obtain ⟨⟨r0, r1, r2, r3⟩, hr⟩ : ∃ r, decT s = r := ⟨_, rfl⟩
   simp only [if_true, hr, Option.isSome_some] at p1 p2 p3 p4 ⊢
   have HB0 := Lib.hid hb1
   clear h hg hp hP hL hA hr hZ hb1
   go_enter Tryz.func41, Tryz.ntmps41
   go_wp2_with (first
    | (go_at_call 65; refine (HR.out _).mono ?_; rintro e V ⟨rfl, rfl⟩)
    | (go_at_call 66; refine HH.out.mono ?_; rintro e V ⟨rfl, rfl⟩))
   refine wp_region_still_tail 10 (by kernel_rfl) (by kernel_rfl) ?_
   simp only [List.take_succ_cons, List.take_zero, List.drop_succ_cons, List.drop_zero]
   iterate 6 ((with_reducible refine wpStill_step (fun K hK => ?_)); go_simp; (with_reducible refine hK _ ?_); clear hK K)
   (with_reducible refine wpStill_step (fun K hK => ?_))
   go_simp
   refine ⟨_, HA.out.mono (fun e V h => ⟨h.1, h.2.symm⟩), hK _ ?_⟩
   clear hK K
   iterate 3 ((with_reducible refine wpStill_step (fun K hK => ?_)); go_simp; (with_reducible refine hK _ ?_); clear hK K)
   with_reducible refine wpStill_nil ?_
   go_wp2
   have t4 := Rw.four_set W1 w.heap.size [] (.int .i64 r0) (.int .i64 r1) (.int .i64 r2) (.int .i64 r3) hv
   refine bodyPost_ret (v := .tuple #[rowW (r0, r1, r2, r3), .int .i64 0]) (by simp [results, Tryz.results41, go_sem, cell_drew, t4.1, t4.2.1, t4.2.2.1, t4.2.2.2, rowW]) rfl ?_
   have hb := HB1.out _ (Below.refl _ _)
   exact ⟨rfl, (hb.trans ((four_fr w.heap.size _ _ _ _ W1).below hb.size (fun b o e => by rw [e]; exact Nat.le_refl _))).drew⟩
end
end Tb
end Go.Proofs.YtecnijnmgdfdhaaGreat

namespace Go.Proofs.YtecnijnmgdfdhaaGreat
namespace Tb
open Go.RowKit Tr
open Ky (less)
theorem infoRow : (Tryz.prog.info? 98).map (fun i => (i.zero, i.size, i.bytes)) = some (some (.agg #[.string ⟨#[]⟩, .int .i64 0, .int .i64 0, .int .i64 0, .int .i64 0]), 5, 48) := by kernel_rfl
def DocA (r most : Nat) (a : Option Addr) (c : Nat) (L : List Pr) : Rs where
 R w F := ∃ F0, Tdl w r F0 a c most L ∧ F = lstF r F0
 fr := fun ⟨F0, t, hF⟩ hf ha => ⟨F0, t.fr hf (by rw [← hF]; exact ha), hF⟩
 lies := fun ⟨F0, t, hF⟩ => by rw [hF]; exact t.lies
section
variable {B : Nat} {w0 w V : World} {X Y : List Rs} {r most : Nat} {L L' : List Pr} {a : Option Addr} {c : Nat}
theorem own_docOpen (h : Own B w0 (DocR r most L :: X) w) : ∃ a c, Own B w0 (DocA r most a c L :: X) w := by
 obtain ⟨hB, hb0, F, ⟨F1, F2, e, ha, ⟨F0, a, c, t, hF⟩, h3⟩, h2⟩ := h
 exact ⟨a, c, hB, hb0, F, ⟨F1, F2, e, ha, ⟨F0, t, hF⟩, h3⟩, h2⟩
theorem own_docClose (h : Own B w0 (DocA r most a c L :: X) w) : Own B w0 (DocR r most L :: X) w :=
 h.imp (fun F ⟨F0, t, hF⟩ => ⟨F0, a, c, t, hF⟩)
theorem own_docM (h : Own B w0 Y w) (hm : DocA r most a c L ∈ Y) : ∃ F, Tdl w r F a c most L := by
 obtain ⟨_, _, F, hs, _⟩ := h
 obtain ⟨F1, F0, t, _⟩ := sepF_mem hs hm
 exact ⟨F0, t⟩
theorem own_docSet {a' : Option Addr} {N c' : Nat} (h : Own B w0 (SlR 5 a' N c' (rowsV L') :: DocA r most a c L :: X) w) (hN : L'.length = N) : Own B w0 (DocR r most L' :: X) (w.setCell ⟨r, 0, none⟩ (.slice a' N c')) := by
 subst hN
 refine Own.turn (L := [SlR 5 a' L'.length c' (rowsV L'), DocA r most a c L]) (L' := [DocR r most L']) h (fun F1 hs => ?_)
 obtain ⟨G1, G2, e, ha, ⟨k1, k2⟩, hs2⟩ := hs
 obtain ⟨F0, t, rfl⟩ := SepF.get hs2
 have hrb := block_of_cell t.c0
 have hset := fr_own w r 0 (.slice a' L'.length c')
 have hnr : ∀ x, ¬ G1 r x := fun x hx => ha r x hx (.inl rfl)
 refine ⟨lstF r G1, SepF.one ⟨G1, a', c', ⟨World.cell?_setCell_same' _ _ _ (by rw [t.c0]; rfl), by rw [World.frozen?_setCell]; exact t.f0, ?_, k1.fr hset (fun b x hx e => hnr x (by cases e; exact hx)), hnr, k2.later hset⟩, rfl⟩, hset.mono (fun b o h => (e b o).2 (.inr (.inl h))), fun b o h => .inl ((e b o).2 ?_)⟩
 ·rw [World.cell?_setCell_other _ _ _ _ (by simp)]
  exact t.c1
 ·rcases h with h | h
  ·exact .inr (.inl h)
  ·exact .inl h
set_option maxHeartbeats 4000000 in
set_option maxRecDepth 100000 in
theorem own_docDel (k : Str) (hn : L.length ≤ 100000) (h : Own B w0 (DocR r most L :: X) w) :
  Calls Tryz.prog 40 #[ptrV r, .string ⟨k.toArray⟩] w fun e V => e = .returned (.tuple #[rowW (getR k L), .int .i64 (getE k L)]) ∧ Own B w0 (DocR r most (delT k L) :: X) V := by
 obtain ⟨a, c, hA⟩ := own_docOpen h
 have hZ := own_newRow hA zr 41
 obtain ⟨W1, hW1⟩ : ∃ W1, w.alloc (.cells #[.int .i64 0, .int .i64 0, .int .i64 0, .int .i64 0] 41) = W1 := ⟨_, rfl⟩
 have hZ : Own B w0 (CellsR w.heap.size (r4V zr) :: DocA r most a c L :: X) W1 := by rw [← hW1]; exact hZ
 obtain ⟨F0, ht⟩ := own_docM hZ (r := r) (most := most) (a := a) (c := c) (L := L) (by simp)
 have HG := Lib.hid (getD_any k (by omega) W1 ht)
 have HZ := Lib.hid hZ
 by_cases he : getE k L = 0
 case neg =>
  obtain ⟨e1, e2⟩ := get_e1 he
  rw [e1]
  rw [e2] at HG ⊢
  have hne : ¬ getE k L = 0 := he
  obtain ⟨ec, hec⟩ : ∃ ec, getE k L = ec := ⟨_, rfl⟩
  rw [hec] at HG hne ⊢
  clear h hA hZ ht e1 e2 he hec
  have HV : Hid (∀ V, Below W1.heap.size W1 V → Own B w0 (CellsR w.heap.size (r4V zr) :: DocA r most a c L :: X) (V.alloc (.cells #[.int .i64 0, .int .i64 0, .int .i64 0, .int .i64 0] 41))) := Lib.hid (fun V hb => (HZ.out.later hb).later (al1 V _))
  go_enter Tryz.func40, Tryz.ntmps40
  go_wp2_with (go_at_call 41; refine HG.out.mono ?_; unfold rowW zr; rintro e V ⟨rfl, hb⟩; have H2 := Lib.hid (HV.out V hb); have hv := own_zero (HV.out V hb); clear hb; have f0 := (hv 0 (by omega)).1; have g0 := (hv 0 (by omega)).2; have f1 := (hv 1 (by omega)).1; have g1 := (hv 1 (by omega)).2; have f2 := (hv 2 (by omega)).1; have g2 := (hv 2 (by omega)).2; have f3 := (hv 3 (by omega)).1; have g3 := (hv 3 (by omega)).2)
  have t4 := Rw.four_set _ w.heap.size [] (.int .i64 0) (.int .i64 0) (.int .i64 0) (.int .i64 0) hv
  refine bodyPost_ret (v := .tuple #[rowW zr, .int .i64 ec]) (by simp [results, Tryz.results40, go_sem, t4.1, t4.2.1, t4.2.2.1, t4.2.2.2, rowW, zr]) rfl ?_
  exact ⟨rfl, own_docClose (own_scratch H2.out (four_fr w.heap.size _ _ _ _ _))⟩
 obtain ⟨i0, hi, hz0, hz1, hz2⟩ := info_parts infoRow
 obtain ⟨hkey, s, hg⟩ := get_e0 he
 have hR : getR k L = decT s := by unfold getR; rw [hkey, hg]; rfl
 have hD : delT k L = del k L := by unfold delT; rw [hkey]; rfl
 rw [he] at HG ⊢
 rw [hR] at HG ⊢
 rw [hD]
 obtain ⟨⟨r0, r1, r2, r3⟩, hr⟩ : ∃ q, decT s = q := ⟨_, rfl⟩
 rw [hr] at HG ⊢
 simp only [rowW] at HG
 have hp := get_at hg
 have hlt := (List.getElem?_eq_some_iff.1 hp).1
 have hDl := Lib.hid (del_at hg)
 obtain ⟨P, hP⟩ : ∃ P, pl k L = P := ⟨_, rfl⟩
 obtain ⟨n, hL⟩ : ∃ n, L.length = n := ⟨_, rfl⟩
 rw [hP] at hDl hlt
 have hs := ht.sl
 rw [hL] at hs hlt hn
 have hnc := hs.le
 have hcap : c ≤ maxLen := hs.cap
 have hto := to_ex (P := Tryz.prog) 45 Tryz.underlying45 5 Tryz.sizeOf98 a n c .i64 P (by omega)
 obtain ⟨sa, hsa, hRS⟩ : ∃ sa, (∀ W : World, (Instr.slice 45 (.slice a n c) (some (.int .i64 ((P : Int) + 1))) none none).run Tryz.prog W = .ok (.slice sa (n - (P + 1)) (c - (P + 1))) W) ∧ ∀ W : World, Rd W 5 a n c (rowsV L) → Rd W 5 sa (n - (P + 1)) (c - (P + 1)) ((rowsV L).drop ((P + 1) * 5)) :=
  ⟨_, fun W => run_slice_from 45 Tryz.underlying45 5 Tryz.sizeOf98 a n c .i64 ((P : Int) + 1) (P + 1) (by omega) (by omega) W, fun _ h => h.from (P + 1) (by omega)⟩
 have HT : Hid (∀ (Y : List Rs) V, Own B w0 Y V → DocA r most a c L ∈ Y → (∃ F, Tdl V r F a c most L) ∧ V.cell? ⟨r, 0, none⟩ = some (.slice a n c) ∧ V.frozen? ⟨r, 0, none⟩ = false ∧ Rd V 5 a P c (rowsV (L.take P)) ∧ Rd V 5 sa (n - (P + 1)) (c - (P + 1)) (rowsV (L.drop (P + 1)))) := Lib.hid (fun Y V h hm => by
  obtain ⟨F, t⟩ := own_docM h hm
  have hs := t.sl
  have c0 := t.c0
  rw [hL] at hs c0
  have h1 := hs.rd.to P (by omega)
  have h2 := hRS V hs.rd
  rw [rowsV_take] at h1
  rw [rowsV_drop] at h2
  exact ⟨⟨F, t⟩, c0, t.f0, h1, h2⟩)
 have HA : Hid (∀ (Y : List Rs) V, Own B w0 Y V → DocA r most a c L ∈ Y → Calls Tryz.prog 67 #[ptrV r, .string ⟨k.toArray⟩] V fun e V2 => e = .returned (.int .i64 P) ∧ V = V2) := Lib.hid (fun Y V h hm => by
  obtain ⟨F, t⟩ := own_docM h hm
  have := atD_any r F a c most L k (by omega) V t
  rwa [hP] at this)
 have HV : Hid (∀ V, Below W1.heap.size W1 V → Own B w0 (CellsR V.heap.size (r4V (r0, r1, r2, r3)) :: CellsR w.heap.size (r4V zr) :: DocA r most a c L :: X) (V.alloc (.cells #[.int .i64 r0, .int .i64 r1, .int .i64 r2, .int .i64 r3] 41))) := Lib.hid (fun V hb => own_newRow (HZ.out.later hb) (r0, r1, r2, r3) 41)
 have HLn := Lib.hid hL
 have hP0 : (0 : Int) ≤ (P : Int) := by omega
 have hP1 : (P : Int) ≤ 100000 := by omega
 clear h hA hZ ht he hkey hg hR hD hr hp hP hs hRS hL
 go_enter Tryz.func40, Tryz.ntmps40
 go_wp2_with (first
  | (go_at_call 41; refine HG.out.mono ?_; rintro e V ⟨rfl, hb⟩; have H2 := Lib.hid (HV.out V hb); obtain ⟨⟨_, ht⟩, x0, x1, x2, x3⟩ := HT.out _ _ H2.out (by simp); have HRd := Lib.hid (And.intro x2 x3); clear hb ht x2 x3)
  | (go_at_call 67; refine (HA.out _ _ H2.out (by simp)).mono ?_; rintro e V2 ⟨rfl, rfl⟩)
  | (at_builtin; refine wpList_app_own (B := B) (w0 := w0) rfl (.tmp 23) (.tmp 29) 45 rfl 98 i0 _ 5 48 Tryz.underlying45 hi hz0 hz1 hz2 rfl (by decide) none 0 0 [] rfl (own_nilSl H2.out 5) a P c (rowsV (L.take P)) rfl HRd.out.1 P (rowsV (L.take P)) (Nat.zero_add P) (List.nil_append _) (by unfold maxLen; omega) (by omega) ?_; intro a1 c1 w1 ho; have H3 := Lib.hid ho; obtain ⟨_, y0, y1, y2, y3⟩ := HT.out _ _ ho (by simp); have HRd3 := Lib.hid (And.intro y2 y3); clear ho y2 y3)
  | (at_builtin; refine wpList_app_own (B := B) (w0 := w0) rfl (.tmp 32) (.tmp 39) 45 rfl 98 i0 _ 5 48 Tryz.underlying45 hi hz0 hz1 hz2 rfl (by decide) a1 P c1 (rowsV (L.take P)) rfl H3.out sa (n - (P + 1)) (c - (P + 1)) (rowsV (L.drop (P + 1))) rfl HRd3.out.2 (P + (n - (P + 1))) (rowsV (L.take P ++ L.drop (P + 1))) rfl (rowsV_append _ _).symm (by unfold maxLen; omega) (by omega) ?_; intro a2 c2 w2 ho; have H4 := Lib.hid ho; obtain ⟨_, z0, z1, z2, z3⟩ := HT.out _ _ ho (by simp); clear z2 z3; have H5 := Lib.hid (own_docSet (L' := L.take P ++ L.drop (P + 1)) (ho.perm (List.Perm.cons _ (List.perm_middle (l₁ := [_, _])))) (by rw [List.length_append, List.length_take, List.length_drop, HLn.out]; omega)); clear ho; obtain ⟨q0, q1, q2, q3⟩ := own_rowM (p := V.heap.size) (r := (r0, r1, r2, r3)) H5.out (by simp); have hv := own_zeroM (r := w.heap.size) H5.out (by simp); have f0 := (hv 0 (by omega)).1; have g0 := (hv 0 (by omega)).2; have f1 := (hv 1 (by omega)).1; have g1 := (hv 1 (by omega)).2; have f2 := (hv 2 (by omega)).1; have g2 := (hv 2 (by omega)).2; have f3 := (hv 3 (by omega)).1; have g3 := (hv 3 (by omega)).2))
 have t4 := Rw.four_set _ w.heap.size [] (.int .i64 r0) (.int .i64 r1) (.int .i64 r2) (.int .i64 r3) hv
 refine bodyPost_ret (v := .tuple #[rowW (r0, r1, r2, r3), .int .i64 0]) (by simp [results, Tryz.results40, go_sem, t4.1, t4.2.1, t4.2.2.1, t4.2.2.2, rowW]) rfl ?_
 refine ⟨rfl, ?_⟩
 rw [hDl.out]
 have h1 := H5.out.swap.drop.swap
 exact own_scratch h1 (four_fr w.heap.size (.int .i64 r0) (.int .i64 r1) (.int .i64 r2) (.int .i64 r3) _)
end
end Tb
end Go.Proofs.YtecnijnmgdfdhaaGreat
