/- Joined: Tbdoc4. -/
import Derived.Test.YtecnijnmgdfdhaaGreatYDoc
namespace Go.Proofs.YtecnijnmgdfdhaaGreat
namespace Tb
open Go.RowKit Tr
open Ky (less)
theorem rowsV_row {q : R4} (h : In4 q) {k : Str} : rowsV [(k, encT q)] = [.string ⟨k.toArray⟩, .int .i64 q.1, .int .i64 q.2.1, .int .i64 q.2.2.1, .int .i64 q.2.2.2] := by
 rw [rowsV_cons]
 simp only [decT_encT h]
 rfl
section
variable {B : Nat} {w0 w V : World} {X Y : List Rs} {r most : Nat} {L L' : List Pr} {a : Option Addr} {c : Nat}
set_option maxHeartbeats 16000000 in
set_option maxRecDepth 100000 in
theorem own_docPut (k : Str) (q : R4) (hq : In4 q) (hn : L.length ≤ 100000) (h : Own B w0 (DocR r most L :: X) w) :
  Calls Tryz.prog 39 #[ptrV r, .string ⟨k.toArray⟩, rowW q] w fun e V => e = .returned (.tuple #[rowW (getR k L), .bool (putB k L), .int .i64 (putE k most L)]) ∧ Own B w0 (DocR r most (putT k q most L) :: X) V := by
 obtain ⟨r0, r1, r2, r3⟩ := q
 show Calls _ _ #[ptrV r, .string ⟨k.toArray⟩, .agg #[.int .i64 r0, .int .i64 r1, .int .i64 r2, .int .i64 r3]] _ _
 obtain ⟨a, c, hA⟩ := own_docOpen h
 have hZ := own_newRow (own_newRow hA (r0, r1, r2, r3) 41) zr 41
 rw [World.size_alloc] at hZ
 obtain ⟨W1, hW1⟩ : ∃ W1, (w.alloc (.cells #[.int .i64 r0, .int .i64 r1, .int .i64 r2, .int .i64 r3] 41)).alloc (.cells #[.int .i64 0, .int .i64 0, .int .i64 0, .int .i64 0] 41) = W1 := ⟨_, rfl⟩
 have hWs : W1.heap.size = w.heap.size + 2 := by rw [← hW1]; simp
 have hZ : Own B w0 (CellsR (w.heap.size + 1) (r4V zr) :: CellsR w.heap.size (r4V (r0, r1, r2, r3)) :: DocA r most a c L :: X) W1 := by rw [← hW1]; exact hZ
 have HZ := Lib.hid hZ
 have HIn := Lib.hid hq
 have HR := Lib.hid (fun W => rightD_any k W)
 obtain ⟨_, ht⟩ := own_docM hZ (r := r) (most := most) (a := a) (c := c) (L := L) (by simp)
 have HS := Lib.hid (hasD_any r _ a c most L k (by omega) W1 ht)
 rw [has_get] at HS
 obtain ⟨n, hL⟩ : ∃ n, L.length = n := ⟨_, rfl⟩
 have c0 := ht.c0
 have c1 := ht.c1
 have hs := ht.sl
 rw [hL] at c0 hs hn
 have hnc := hs.le
 have hcap : c ≤ maxLen := hs.cap
 have hv := own_zeroM (r := w.heap.size + 1) hZ (by simp)
 have HLn := Lib.hid hL
 clear h hA hZ hs ht hq
 unfold putB putE putT getR
 cases hkey : Ks.okKey k with
 | false =>
  rw [hkey] at HR
  have hpe : putE k most L = 13 := by unfold putE; rw [hkey]; rfl
  rw [hpe]
  have f0 := (hv 0 (by omega)).1
  have g0 := (hv 0 (by omega)).2
  have f1 := (hv 1 (by omega)).1
  have g1 := (hv 1 (by omega)).2
  have f2 := (hv 2 (by omega)).1
  have g2 := (hv 2 (by omega)).2
  have f3 := (hv 3 (by omega)).1
  have g3 := (hv 3 (by omega)).2
  clear hpe hkey c0 c1
  go_enter Tryz.func39, Tryz.ntmps39
  go_wp2_with (go_at_call 65; refine (HR.out _).mono ?_; rintro e V ⟨rfl, rfl⟩)
  have t4 := Rw.four_set W1 (w.heap.size + 1) [] (.int .i64 0) (.int .i64 0) (.int .i64 0) (.int .i64 0) hv
  refine bodyPost_ret (v := .tuple #[rowW zr, .bool false, .int .i64 13]) (by simp [results, Tryz.results39, go_sem, t4.1, t4.2.1, t4.2.2.1, t4.2.2.2, rowW, zr]) rfl ?_
  exact ⟨rfl, own_docClose (own_scratch HZ.out (four_fr (w.heap.size + 1) (.int .i64 0) (.int .i64 0) (.int .i64 0) (.int .i64 0) W1)).drop⟩
 | true =>
  rw [hkey] at HR
  have HK := Lib.hid hkey
  cases hg : get k L with
  | none =>
   rw [hg] at HS
   by_cases hfull : most ≤ n
   ·have k1 : (most : Int) ≤ (n : Int) := by omega
    have hpe : putE k most L = 16 := by unfold putE; rw [HK.out, hg, hL]; simp [hfull]
    rw [hpe]
    simp only [if_true, hg, hL, Option.isNone_none, Option.isSome_none, Bool.true_and, Bool.and_false, decide_eq_true hfull]
    have f0 := (hv 0 (by omega)).1
    have g0 := (hv 0 (by omega)).2
    have f1 := (hv 1 (by omega)).1
    have g1 := (hv 1 (by omega)).2
    have f2 := (hv 2 (by omega)).1
    have g2 := (hv 2 (by omega)).2
    have f3 := (hv 3 (by omega)).1
    have g3 := (hv 3 (by omega)).2
    clear hpe hg hkey hL
    go_enter Tryz.func39, Tryz.ntmps39
    go_wp2_with (first | (go_at_call 65; refine (HR.out _).mono ?_; rintro e V ⟨rfl, rfl⟩) | (go_at_call 66; refine HS.out.mono ?_; rintro e V ⟨rfl, rfl⟩))
    go_quiet (fail)
    go_wp2
    have t4 := Rw.four_set _ (w.heap.size + 1) [] (.int .i64 0) (.int .i64 0) (.int .i64 0) (.int .i64 0) (hv.later (below_drewN W1 nq))
    refine bodyPost_ret (v := .tuple #[rowW zr, .bool false, .int .i64 16]) (by simp [results, Tryz.results39, go_sem, t4.1, t4.2.1, t4.2.2.1, t4.2.2.2, rowW, zr]) rfl ?_
    exact ⟨by simp, own_docClose (own_scratch (HZ.out.later (below_drewN W1 nq)) (four_fr (w.heap.size + 1) (.int .i64 0) (.int .i64 0) (.int .i64 0) (.int .i64 0) _)).drop⟩
   ·have k1 : ¬ (most : Int) ≤ (n : Int) := by omega
    have hpe : putE k most L = 0 := by unfold putE; rw [HK.out, hg, hL]; simp [hfull]
    rw [hpe]
    simp only [if_true, hg, hL, Option.isNone_none, Option.isSome_none, Bool.true_and, Bool.and_false, decide_eq_false hfull]
    obtain ⟨i0, hi, hz0, hz1, hz2⟩ := info_parts infoRow
    have hI0 := ins_place (k, encT (r0, r1, r2, r3)) L
    rw [show (k, encT (r0, r1, r2, r3)).1 = k from rfl, hg] at hI0
    obtain ⟨P, hP⟩ : ∃ P, pl k L = P := ⟨_, rfl⟩
    have hle : P ≤ n := by rw [← hP, ← hL]; exact pl_le k L
    rw [hP] at hI0
    have hI : Hid (ins (k, encT (r0, r1, r2, r3)) L = (L.take P ++ [(k, encT (r0, r1, r2, r3))]) ++ L.drop P) := Lib.hid (by rw [hI0]; simp)
    clear hI0
    have hto := to_ex (P := Tryz.prog) 45 Tryz.underlying45 5 Tryz.sizeOf98 a n c .i64 P (by omega)
    obtain ⟨sa, hsa, hRS⟩ : ∃ sa, (∀ W : World, (Instr.slice 45 (.slice a n c) (some (.int .i64 (P : Int))) none none).run Tryz.prog W = .ok (.slice sa (n - P) (c - P)) W) ∧ ∀ W : World, Rd W 5 a n c (rowsV L) → Rd W 5 sa (n - P) (c - P) ((rowsV L).drop (P * 5)) :=
     ⟨_, fun W => run_slice_from 45 Tryz.underlying45 5 Tryz.sizeOf98 a n c .i64 (P : Int) P (by omega) (by omega) W, fun _ h => h.from P (by omega)⟩
    have HT : Hid (∀ (Y : List Rs) V, Own B w0 Y V → DocA r most a c L ∈ Y → (∃ F, Tdl V r F a c most L) ∧ V.cell? ⟨r, 0, none⟩ = some (.slice a n c) ∧ V.frozen? ⟨r, 0, none⟩ = false ∧ Rd V 5 a P c (rowsV (L.take P)) ∧ Rd V 5 sa (n - P) (c - P) (rowsV (L.drop P)) ∧ True) := Lib.hid (fun Y V h hm => by
     obtain ⟨F, t⟩ := own_docM h hm
     have hs := t.sl
     have c0 := t.c0
     rw [hL] at hs c0
     have h1 := hs.rd.to P (by omega)
     have h2 := hRS V hs.rd
     rw [rowsV_take] at h1
     rw [rowsV_drop] at h2
     exact ⟨⟨F, t⟩, c0, t.f0, h1, h2, trivial⟩)
    have HA : Hid (∀ (Y : List Rs) V, Own B w0 Y V → DocA r most a c L ∈ Y → Calls Tryz.prog 67 #[ptrV r, .string ⟨k.toArray⟩] V fun e V2 => e = .returned (.int .i64 P) ∧ V = V2) := Lib.hid (fun Y V h hm => by
     obtain ⟨F, t⟩ := own_docM h hm
     have := atD_any r F a c most L k (by omega) V t
     rwa [hP] at this)
    have hP0 : (0 : Int) ≤ (P : Int) := by omega
    have hP1 : (P : Int) ≤ 100000 := by omega
    clear hpe hg hkey hL hP hRS hv
    go_enter Tryz.func39, Tryz.ntmps39
    go_wp2_with (first | (go_at_call 65; refine (HR.out _).mono ?_; rintro e V ⟨rfl, rfl⟩) | (go_at_call 66; refine HS.out.mono ?_; rintro e V ⟨rfl, rfl⟩))
    go_quiet (fail)
    have HQ := Lib.hid (HZ.out.later (below_drewN W1 nq))
    have HQ2 := Lib.hid (own_newRow HQ.out zr 41)
    rw [show (W1.drewN nq).heap.size = w.heap.size + 2 from hWs] at HQ2
    obtain ⟨_, y0, y1, y2, y3, _⟩ := HT.out _ _ HQ2.out (by simp)
    have HRd := Lib.hid (And.intro y2 y3)
    have y0 : ((W1.drewN nq).alloc (.cells #[.int .i64 0, .int .i64 0, .int .i64 0, .int .i64 0] 41)).cell? ⟨r, 0, none⟩ = some (.slice a n c) := y0
    clear y1 y2 y3
    go_wp2_with (first
     | (go_at_call 67; refine (HA.out _ _ HQ.out (by simp)).mono ?_; rintro e V2 ⟨rfl, rfl⟩)
     | (at_builtin; refine wpList_app_own (B := B) (w0 := w0) rfl (.tmp 38) (.tmp 44) 45 rfl 98 i0 _ 5 48 Tryz.underlying45 hi hz0 hz1 hz2 rfl (by decide) none 0 0 [] rfl (own_nilSl HQ2.out 5) a P c (rowsV (L.take P)) rfl HRd.out.1 P (rowsV (L.take P)) (Nat.zero_add P) (List.nil_append _) (by unfold maxLen; omega) (by omega) ?_; intro a1 c1 w1 ho; have H1 := Lib.hid ho; obtain ⟨y0, y1, y2, y3⟩ := own_rowM (p := w.heap.size) (r := (r0, r1, r2, r3)) ho (by simp); clear ho)
     | (at_builtin; refine wpList_app_own (B := B) (w0 := w0) rfl (.tmp 46) (.tmp 50) 45 rfl 98 i0 _ 5 48 Tryz.underlying45 hi hz0 hz1 hz2 rfl (by decide) a1 P c1 (rowsV (L.take P)) rfl (H1.out.later (al1 w1 _)) (some ⟨w1.heap.size, 0, none⟩) 1 1 (rowsV [(k, encT (r0, r1, r2, r3))]) rfl (by rw [rowsV_row HIn.out]; exact Rd.made w1 [.string ⟨k.toArray⟩, .int .i64 r0, .int .i64 r1, .int .i64 r2, .int .i64 r3] 98 5 1 rfl (by decide) (fun x hx => by simp at hx; rcases hx with rfl | rfl | rfl | rfl | rfl <;> rfl) (0, 0)) (P + 1) (rowsV (L.take P ++ [(k, encT (r0, r1, r2, r3))])) rfl (rowsV_append _ _).symm (by unfold maxLen; omega) (by omega) ?_; intro a2 c2 w2 ho; have H2 := Lib.hid ho; obtain ⟨_, z0, z1, z2, z3, _⟩ := HT.out _ _ ho (by simp); have HRd2 := Lib.hid z3; clear z2 z3; clear ho)
     | (at_builtin; refine wpList_app_own (B := B) (w0 := w0) rfl (.tmp 64) (.tmp 70) 45 rfl 98 i0 _ 5 48 Tryz.underlying45 hi hz0 hz1 hz2 rfl (by decide) a2 (P + 1) c2 (rowsV (L.take P ++ [(k, encT (r0, r1, r2, r3))])) rfl H2.out sa (n - P) (c - P) (rowsV (L.drop P)) rfl HRd2.out (P + 1 + (n - P)) (rowsV ((L.take P ++ [(k, encT (r0, r1, r2, r3))]) ++ L.drop P)) rfl (rowsV_append _ _).symm (by unfold maxLen; omega) (by omega) ?_; intro a3 c3 w3 ho; have H4 := Lib.hid ho; obtain ⟨_, x0, x1, _⟩ := HT.out _ _ ho (by simp); have H5 := Lib.hid (own_docSet (L' := (L.take P ++ [(k, encT (r0, r1, r2, r3))]) ++ L.drop P) (ho.perm (List.Perm.cons _ (List.perm_middle (l₁ := [_, _, _])))) (by rw [List.length_append, List.length_append, List.length_take, List.length_drop, HLn.out]; simp only [List.length_cons, List.length_nil]; omega)); clear ho; obtain ⟨q0, q1, q2, q3⟩ := own_rowM (p := w.heap.size + 2) (r := zr) H5.out (by simp); have hv := own_zeroM (r := w.heap.size + 1) H5.out (by simp); have f0 := (hv 0 (by omega)).1; have g0 := (hv 0 (by omega)).2; have f1 := (hv 1 (by omega)).1; have g1 := (hv 1 (by omega)).2; have f2 := (hv 2 (by omega)).1; have g2 := (hv 2 (by omega)).2; have f3 := (hv 3 (by omega)).1; have g3 := (hv 3 (by omega)).2))
    have t4 := Rw.four_set _ (w.heap.size + 1) [] (.int .i64 zr.1) (.int .i64 zr.2.1) (.int .i64 zr.2.2.1) (.int .i64 zr.2.2.2) hv
    refine bodyPost_ret (v := .tuple #[rowW zr, .bool false, .int .i64 0]) (by simp [results, Tryz.results39, go_sem, t4.1, t4.2.1, t4.2.2.1, t4.2.2.2, rowW]) rfl ?_
    refine ⟨by simp, ?_⟩
    rw [hI.out]
    have h1 := own_scratch (H5.out.swap.drop.swap) (four_fr (w.heap.size + 1) (.int .i64 zr.1) (.int .i64 zr.2.1) (.int .i64 zr.2.2.1) (.int .i64 zr.2.2.2) _)
    exact h1.swap.drop
  | some s =>
   rw [hg] at HS
   have hpe : putE k most L = 0 := by unfold putE; rw [HK.out, hg]; rfl
   rw [hpe]
   obtain ⟨⟨s0, s1, s2, s3⟩, hd⟩ : ∃ d, decT s = d := ⟨_, rfl⟩
   simp only [if_true, hg, Option.isSome_some, Bool.and_true, hd]
   obtain ⟨i0, hi, hz0, hz1, hz2⟩ := info_parts infoRow
   have hI0 := ins_place (k, encT (r0, r1, r2, r3)) L
   rw [show (k, encT (r0, r1, r2, r3)).1 = k from rfl, hg] at hI0
   have hp := get_at hg
   have hlt := (List.getElem?_eq_some_iff.1 hp).1
   obtain ⟨P, hP⟩ : ∃ P, pl k L = P := ⟨_, rfl⟩
   rw [hP] at hI0 hp hlt
   rw [hL] at hlt
   have hI : Hid (ins (k, encT (r0, r1, r2, r3)) L = (L.take P ++ [(k, encT (r0, r1, r2, r3))]) ++ L.drop (P + 1)) := Lib.hid (by rw [hI0]; simp)
   clear hI0
   have hto := to_ex (P := Tryz.prog) 45 Tryz.underlying45 5 Tryz.sizeOf98 a n c .i64 P (by omega)
   obtain ⟨sa, hsa, hRS⟩ : ∃ sa, (∀ W : World, (Instr.slice 45 (.slice a n c) (some (.int .i64 ((P : Int) + 1))) none none).run Tryz.prog W = .ok (.slice sa (n - (P + 1)) (c - (P + 1))) W) ∧ ∀ W : World, Rd W 5 a n c (rowsV L) → Rd W 5 sa (n - (P + 1)) (c - (P + 1)) ((rowsV L).drop ((P + 1) * 5)) :=
    ⟨_, fun W => run_slice_from 45 Tryz.underlying45 5 Tryz.sizeOf98 a n c .i64 ((P : Int) + 1) (P + 1) (by omega) (by omega) W, fun _ h => h.from (P + 1) (by omega)⟩
   obtain ⟨F9, ht9⟩ := own_docM HZ.out (r := r) (most := most) (a := a) (c := c) (L := L) (by simp)
   obtain ⟨b, o, ea, _⟩ := ht9.row hp
   have HT : Hid (∀ (Y : List Rs) V, Own B w0 Y V → DocA r most a c L ∈ Y → (∃ F, Tdl V r F a c most L) ∧ V.cell? ⟨r, 0, none⟩ = some (.slice a n c) ∧ V.frozen? ⟨r, 0, none⟩ = false ∧ Rd V 5 a P c (rowsV (L.take P)) ∧ Rd V 5 sa (n - (P + 1)) (c - (P + 1)) (rowsV (L.drop (P + 1))) ∧ V.cell? ⟨b, o + P * 5 + 1, none⟩ = some (.int .i64 s0) ∧ V.cell? ⟨b, o + P * 5 + 2, none⟩ = some (.int .i64 s1) ∧ V.cell? ⟨b, o + P * 5 + 3, none⟩ = some (.int .i64 s2) ∧ V.cell? ⟨b, o + P * 5 + 4, none⟩ = some (.int .i64 s3)) := Lib.hid (fun Y V h hm => by
    obtain ⟨F, t⟩ := own_docM h hm
    have hs := t.sl
    have c0 := t.c0
    obtain ⟨b', o', e', _, p1, p2, p3, p4⟩ := t.row hp
    rw [ea] at e'
    cases e'
    simp only [hd] at p1 p2 p3 p4
    rw [hL] at hs c0
    have h1 := hs.rd.to P (by omega)
    have h2 := hRS V hs.rd
    rw [rowsV_take] at h1
    rw [rowsV_drop] at h2
    exact ⟨⟨F, t⟩, c0, t.f0, h1, h2, p1, p2, p3, p4⟩)
   have HA : Hid (∀ (Y : List Rs) V, Own B w0 Y V → DocA r most a c L ∈ Y → Calls Tryz.prog 67 #[ptrV r, .string ⟨k.toArray⟩] V fun e V2 => e = .returned (.int .i64 P) ∧ V = V2) := Lib.hid (fun Y V h hm => by
    obtain ⟨F, t⟩ := own_docM h hm
    have := atD_any r F a c most L k (by omega) V t
    rwa [hP] at this)
   have hP0 : (0 : Int) ≤ (P : Int) := by omega
   have hP1 : (P : Int) ≤ 100000 := by omega
   have hPn : (P : Int) < (n : Int) := by omega
   clear hpe hg hkey hL hP hRS hv hd hp ht9
   subst ea
   go_enter Tryz.func39, Tryz.ntmps39
   go_wp2_with (first | (go_at_call 65; refine (HR.out _).mono ?_; rintro e V ⟨rfl, rfl⟩) | (go_at_call 66; refine HS.out.mono ?_; rintro e V ⟨rfl, rfl⟩))
   go_quiet (fail)
   have HQ := Lib.hid (HZ.out.later (below_drewN W1 nq))
   have HQ2 := Lib.hid (own_newRow HQ.out zr 41)
   rw [show (W1.drewN nq).heap.size = w.heap.size + 2 from hWs] at HQ2
   obtain ⟨_, y0, y1, y2, y3, _⟩ := HT.out _ _ HQ2.out (by simp)
   have HRd := Lib.hid (And.intro y2 y3)
   have y0 : ((W1.drewN nq).alloc (.cells #[.int .i64 0, .int .i64 0, .int .i64 0, .int .i64 0] 41)).cell? ⟨r, 0, none⟩ = some (.slice (some ⟨b, o, none⟩) n c) := y0
   clear y1 y2 y3
   go_wp2_with (first
    | (go_at_call 67; refine (HA.out _ _ HQ.out (by simp)).mono ?_; rintro e V2 ⟨rfl, rfl⟩)
    | (at_builtin; refine wpList_app_own (B := B) (w0 := w0) rfl (.tmp 38) (.tmp 44) 45 rfl 98 i0 _ 5 48 Tryz.underlying45 hi hz0 hz1 hz2 rfl (by decide) none 0 0 [] rfl (own_nilSl HQ2.out 5) (some ⟨b, o, none⟩) P c (rowsV (L.take P)) rfl HRd.out.1 P (rowsV (L.take P)) (Nat.zero_add P) (List.nil_append _) (by unfold maxLen; omega) (by omega) ?_; intro a1 c1 w1 ho; have H1 := Lib.hid ho; obtain ⟨y0, y1, y2, y3⟩ := own_rowM (p := w.heap.size) (r := (r0, r1, r2, r3)) ho (by simp); clear ho)
    | (at_builtin; refine wpList_app_own (B := B) (w0 := w0) rfl (.tmp 46) (.tmp 50) 45 rfl 98 i0 _ 5 48 Tryz.underlying45 hi hz0 hz1 hz2 rfl (by decide) a1 P c1 (rowsV (L.take P)) rfl (H1.out.later (al1 w1 _)) (some ⟨w1.heap.size, 0, none⟩) 1 1 (rowsV [(k, encT (r0, r1, r2, r3))]) rfl (by rw [rowsV_row HIn.out]; exact Rd.made w1 [.string ⟨k.toArray⟩, .int .i64 r0, .int .i64 r1, .int .i64 r2, .int .i64 r3] 98 5 1 rfl (by decide) (fun x hx => by simp at hx; rcases hx with rfl | rfl | rfl | rfl | rfl <;> rfl) (0, 0)) (P + 1) (rowsV (L.take P ++ [(k, encT (r0, r1, r2, r3))])) rfl (rowsV_append _ _).symm (by unfold maxLen; omega) (by omega) ?_; intro a2 c2 w2 ho; have H2 := Lib.hid ho; obtain ⟨_, z0, z1, z2, z3, z4⟩ := HT.out _ _ ho (by simp); have H3 := Lib.hid (own_cellSet (own_cellSet (own_cellSet (own_cellSet ho.swap (i := 0) (by simp [r4V]) (.int .i64 s0)) (i := 1) (by simp [r4V]) (.int .i64 s1)) (i := 2) (by simp [r4V]) (.int .i64 s2)) (i := 3) (by simp [r4V]) (.int .i64 s3)).swap; have H3 : Hid (Own B w0 (SlR 5 a2 (P + 1) c2 (rowsV (L.take P ++ [(k, encT (r0, r1, r2, r3))])) :: CellsR (w.heap.size + 2) (r4V (s0, s1, s2, s3)) :: CellsR (w.heap.size + 1) (r4V zr) :: CellsR w.heap.size (r4V (r0, r1, r2, r3)) :: DocA r most (some ⟨b, o, none⟩) c L :: X) _) := H3; obtain ⟨_, n0, n1, n2, n3, _⟩ := HT.out _ _ H3.out (by simp); have HRd2 := Lib.hid n3; clear n2 n3; obtain ⟨p1, p2, p3, p4⟩ := z4; clear z2 z3; have jv := own_zeroM (r := w.heap.size + 2) ho (by simp); have j0 := (jv 0 (by omega)).1; have l0 := (jv 0 (by omega)).2; have j1 := (jv 1 (by omega)).1; have l1 := (jv 1 (by omega)).2; have j2 := (jv 2 (by omega)).1; have l2 := (jv 2 (by omega)).2; have j3 := (jv 3 (by omega)).1; have l3 := (jv 3 (by omega)).2; clear ho)
    | (at_builtin; refine wpList_app_own (B := B) (w0 := w0) rfl (.tmp 64) (.tmp 70) 45 rfl 98 i0 _ 5 48 Tryz.underlying45 hi hz0 hz1 hz2 rfl (by decide) a2 (P + 1) c2 (rowsV (L.take P ++ [(k, encT (r0, r1, r2, r3))])) rfl H3.out sa (n - (P + 1)) (c - (P + 1)) (rowsV (L.drop (P + 1))) rfl HRd2.out (P + 1 + (n - (P + 1))) (rowsV ((L.take P ++ [(k, encT (r0, r1, r2, r3))]) ++ L.drop (P + 1))) rfl (rowsV_append _ _).symm (by unfold maxLen; omega) (by omega) ?_; intro a3 c3 w3 ho; have H4 := Lib.hid ho; obtain ⟨_, x0, x1, _⟩ := HT.out _ _ ho (by simp); have H5 := Lib.hid (own_docSet (L' := (L.take P ++ [(k, encT (r0, r1, r2, r3))]) ++ L.drop (P + 1)) (ho.perm (List.Perm.cons _ (List.perm_middle (l₁ := [_, _, _])))) (by rw [List.length_append, List.length_append, List.length_take, List.length_drop, HLn.out]; simp only [List.length_cons, List.length_nil]; omega)); clear ho; obtain ⟨q0, q1, q2, q3⟩ := own_rowM (p := w.heap.size + 2) (r := (s0, s1, s2, s3)) H5.out (by simp); have hv := own_zeroM (r := w.heap.size + 1) H5.out (by simp); have f0 := (hv 0 (by omega)).1; have g0 := (hv 0 (by omega)).2; have f1 := (hv 1 (by omega)).1; have g1 := (hv 1 (by omega)).2; have f2 := (hv 2 (by omega)).1; have g2 := (hv 2 (by omega)).2; have f3 := (hv 3 (by omega)).1; have g3 := (hv 3 (by omega)).2))
   have t4 := Rw.four_set _ (w.heap.size + 1) [] (.int .i64 s0) (.int .i64 s1) (.int .i64 s2) (.int .i64 s3) hv
   refine bodyPost_ret (v := .tuple #[rowW (s0, s1, s2, s3), .bool true, .int .i64 0]) (by simp [results, Tryz.results39, go_sem, t4.1, t4.2.1, t4.2.2.1, t4.2.2.2, rowW]) rfl ?_
   refine ⟨by simp, ?_⟩
   rw [hI.out]
   have h1 := own_scratch (H5.out.swap.drop.swap) (four_fr (w.heap.size + 1) (.int .i64 s0) (.int .i64 s1) (.int .i64 s2) (.int .i64 s3) _)
   exact h1.swap.drop
end
end Tb
end Go.Proofs.YtecnijnmgdfdhaaGreat
