/- Joined: Tblaw11. -/
import Derived.Test.YtecnijnmgdfdhaaYTblaw9
import Derived.Test.YtecnijnmgdfdhaaYTblaw5
/- The laws of package table: TableCommutes. -/
namespace Go.Proofs.Ytecnijnmgdfdhaa
namespace Tb
open Go.RowKit Tr
open Ky (less)
theorem eqAns (d : Nat) (a0 a1 a2 a3 : Int) (b : Bool) (e : Int) (w : World) : (Op.equalIn (d + 3) 64 (.agg #[.int .i64 a0, .int .i64 a1, .int .i64 a2, .int .i64 a3, .bool b, .int .i64 e]) (.agg #[.int .i64 a0, .int .i64 a1, .int .i64 a2, .int .i64 a3, .bool b, .int .i64 e])).run Try.prog w = .ok true w := by
  have u3 := Try.underlying32
  have k3 := Try.isAgg32
  have z3 := Try.sizeOf32
  have u4 := Try.underlying4
  have a4 := Try.isAgg4
  have z4 := Try.sizeOf4
  have a5 := Try.isAgg37
  have z5 := Try.sizeOf37
  have he := fun w => Rw.eqRow d a0 a1 a2 a3 a0 a1 a2 a3 w
  simp only [beq_self_eq_true, Bool.and_self] at he
  have hS : Try.prog.underlying 64 = some (.struct (Try.prog.fieldsOf 64)) := by kernel_rfl
  have hp : Try.prog.stoodInHeld 64 = false := by kernel_rfl
  rw [run_equalIn_agg w (d + 2) 64 _ _ hS hp]
  simp only [Program.fieldsOf, Try.underlying64]
  go_simp
theorem guardAns : Try.prog.eqGuardType Try.prog.depth 64 = false := by kernel_rfl
theorem eqlAns (a0 a1 a2 a3 : Int) (b : Bool) (e : Int) (w : World) : (binOp .eql 64 (.agg #[.int .i64 a0, .int .i64 a1, .int .i64 a2, .int .i64 a3, .bool b, .int .i64 e]) (.agg #[.int .i64 a0, .int .i64 a1, .int .i64 a2, .int .i64 a3, .bool b, .int .i64 e])).run Try.prog w = .ok (.bool true) w := by
  rw [run_eql_struct, eqAns]; rfl
def ansL (a : R4 × Bool × Int) : List Value := [.int .i64 a.1.1, .int .i64 a.1.2.1, .int .i64 a.1.2.2.1, .int .i64 a.1.2.2.2, .bool a.2.1, .int .i64 a.2.2]
section
variable {B : Nat} {w0 w V : World} {X Y : List Rs} {tb r most o : Nat} {L : List Pr}
theorem own_newAns (h : Own B w0 X w) (r : R4) (b : Bool) (e : Int) (t : TypeId) : Own B w0 (CellsR w.heap.size (ansL (r, b, e)) :: X) (w.alloc (.cells #[.int .i64 r.1, .int .i64 r.2.1, .int .i64 r.2.2.1, .int .i64 r.2.2.2, .bool b, .int .i64 e] t)) :=
  own_cells h #[.int .i64 r.1, .int .i64 r.2.1, .int .i64 r.2.2.1, .int .i64 r.2.2.2, .bool b, .int .i64 e] t
theorem own_ansM {p : Nat} {r : R4} {b : Bool} {e : Int} (h : Own B w0 Y w) (hm : CellsR p (ansL (r, b, e)) ∈ Y) : (w.cell? ⟨p, 0, none⟩ = some (.int .i64 r.1) ∧ w.cell? ⟨p, 1, none⟩ = some (.int .i64 r.2.1) ∧ w.cell? ⟨p, 2, none⟩ = some (.int .i64 r.2.2.1) ∧ w.cell? ⟨p, 3, none⟩ = some (.int .i64 r.2.2.2) ∧ w.cell? ⟨p, 4, none⟩ = some (.bool b) ∧ w.cell? ⟨p, 5, none⟩ = some (.int .i64 e)) ∧ ∀ i, i < 6 → w.frozen? ⟨p, i, none⟩ = false :=
  ⟨⟨(own_cellM h hm (i := 0) rfl).1, (own_cellM h hm (i := 1) rfl).1, (own_cellM h hm (i := 2) rfl).1, (own_cellM h hm (i := 3) rfl).1, (own_cellM h hm (i := 4) rfl).1, (own_cellM h hm (i := 5) rfl).1⟩, fun i hi => by
    have : i = 0 ∨ i = 1 ∨ i = 2 ∨ i = 3 ∨ i = 4 ∨ i = 5 := by omega
    rcases this with rfl | rfl | rfl | rfl | rfl | rfl
    · exact (own_cellM h hm (i := 0) rfl).2
    · exact (own_cellM h hm (i := 1) rfl).2
    · exact (own_cellM h hm (i := 2) rfl).2
    · exact (own_cellM h hm (i := 3) rfl).2
    · exact (own_cellM h hm (i := 4) rfl).2
    · exact (own_cellM h hm (i := 5) rfl).2⟩
theorem own_ansSet {p : Nat} {r r' : R4} {b b' : Bool} {e e' : Int} (h : Own B w0 (CellsR p (ansL (r, b, e)) :: X) w) : Own B w0 (CellsR p (ansL (r', b', e')) :: X) ((((((w.setCell ⟨p, 0, none⟩ (.int .i64 r'.1)).setCell ⟨p, 1, none⟩ (.int .i64 r'.2.1)).setCell ⟨p, 2, none⟩ (.int .i64 r'.2.2.1)).setCell ⟨p, 3, none⟩ (.int .i64 r'.2.2.2)).setCell ⟨p, 4, none⟩ (.bool b')).setCell ⟨p, 5, none⟩ (.int .i64 e')) :=
  own_cellSet (own_cellSet (own_cellSet (own_cellSet (own_cellSet (own_cellSet h (i := 0) (by simp [ansL]) _) (i := 1) (by simp [ansL]) _) (i := 2) (by simp [ansL]) _) (i := 3) (by simp [ansL]) _) (i := 4) (by simp [ansL]) _) (i := 5) (by simp [ansL]) _
set_option maxHeartbeats 8000000 in
set_option maxRecDepth 100000 in
theorem own_ans (x : OpT) (hx : OkOp x) (h : Own B w0 (TabR tb most o L :: X) w) :
    Calls Try.prog 27 #[ptrV tb, .agg #[.int .i64 x.1, .string ⟨x.2.1.toArray⟩, .int .i64 x.2.2.1, .int .i64 x.2.2.2.1, .int .i64 x.2.2.2.2.1, .int .i64 x.2.2.2.2.2]] w fun e V => e = .returned (.agg (ansL (ansT most x L)).toArray) ∧ Own B w0 (TabR tb most o (stepT most x L) :: X) V := by
  obtain ⟨ask, k, r0, r1, r2, r3⟩ := x
  have HB := Lib.hid (own_newAns (own_cells h #[.int .i64 ask, .string ⟨k.toArray⟩, .int .i64 r0, .int .i64 r1, .int .i64 r2, .int .i64 r3] 52) zr false 0 64)
  rw [World.size_alloc] at HB
  obtain ⟨W, hW⟩ : ∃ W, (w.alloc (.cells #[.int .i64 ask, .string ⟨k.toArray⟩, .int .i64 r0, .int .i64 r1, .int .i64 r2, .int .i64 r3] 52)).alloc (.cells #[.int .i64 zr.1, .int .i64 zr.2.1, .int .i64 zr.2.2.1, .int .i64 zr.2.2.2, .bool false, .int .i64 0] 64) = W := ⟨_, rfl⟩
  rw [hW] at HB
  have hW : (w.alloc (.cells #[.int .i64 ask, .string ⟨k.toArray⟩, .int .i64 r0, .int .i64 r1, .int .i64 r2, .int .i64 r3] 52)).alloc (.cells #[.int .i64 0, .int .i64 0, .int .i64 0, .int .i64 0, .bool false, .int .i64 0] 64) = W := hW
  have HC : Hid (∀ (Y : List Rs) V, Own B w0 Y V → CellsR w.heap.size [.int .i64 ask, .string ⟨k.toArray⟩, .int .i64 r0, .int .i64 r1, .int .i64 r2, .int .i64 r3] ∈ Y → V.cell? ⟨w.heap.size, 0, none⟩ = some (.int .i64 ask) ∧ V.cell? ⟨w.heap.size, 1, none⟩ = some (.string ⟨k.toArray⟩) ∧ V.cell? ⟨w.heap.size, 2, none⟩ = some (.int .i64 r0) ∧ V.cell? ⟨w.heap.size, 3, none⟩ = some (.int .i64 r1) ∧ V.cell? ⟨w.heap.size, 4, none⟩ = some (.int .i64 r2) ∧ V.cell? ⟨w.heap.size, 5, none⟩ = some (.int .i64 r3)) := Lib.hid (fun Y V h hm =>
    ⟨(own_cellM h hm (i := 0) rfl).1, (own_cellM h hm (i := 1) rfl).1, (own_cellM h hm (i := 2) rfl).1, (own_cellM h hm (i := 3) rfl).1, (own_cellM h hm (i := 4) rfl).1, (own_cellM h hm (i := 5) rfl).1⟩)
  obtain ⟨x0, x1, x2, x3, x4, x5⟩ := HC.out _ _ HB.out (by simp)
  have HIn := Lib.hid hx.2
  have HT : Hid (Own B w0 (TabR tb most o L :: CellsR (w.heap.size + 1) (ansL (zr, false, 0)) :: CellsR w.heap.size [.int .i64 ask, .string ⟨k.toArray⟩, .int .i64 r0, .int .i64 r1, .int .i64 r2, .int .i64 r3] :: X) W) := Lib.hid HB.out.third
  clear h hx HB
  obtain ⟨⟨g0, g1, g2, g3⟩, hgr⟩ : ∃ g, getR k L = g := ⟨_, rfl⟩
  by_cases h0 : ask = 0
  · subst h0
    have HS : Hid (stepT most (0, k, r0, r1, r2, r3) L = putT k (r0, r1, r2, r3) most L) := Lib.hid (by simp [stepT])
    have HAn : Hid (ansT most (0, k, r0, r1, r2, r3) L = ((g0, g1, g2, g3), putB k L, putE k most L)) := Lib.hid (by simp [ansT, hgr])
    rw [HS.out, HAn.out]
    have HP : Hid (∀ (X : List Rs) V, Own B w0 (TabR tb most o L :: X) V → Calls Try.prog 24 #[ptrV tb, .string ⟨k.toArray⟩, .agg #[.int .i64 r0, .int .i64 r1, .int .i64 r2, .int .i64 r3]] V fun e V2 => e = .returned (.tuple #[.agg #[.int .i64 g0, .int .i64 g1, .int .i64 g2, .int .i64 g3], .bool (putB k L), .int .i64 (putE k most L)]) ∧ Own B w0 (TabR tb most o (putT k (r0, r1, r2, r3) most L) :: X) V2) := Lib.hid (fun X V h => by
      have := own_tabPut k (r0, r1, r2, r3) HIn.out h
      rwa [hgr] at this)
    obtain ⟨pb, hpb⟩ : ∃ pb, putB k L = pb := ⟨_, rfl⟩
    obtain ⟨pe, hpe⟩ : ∃ pe, putE k most L = pe := ⟨_, rfl⟩
    rw [hpb, hpe] at HP ⊢
    clear hpb hpe hgr
    go_enter Try.func27, Try.ntmps27
    go_wp2_with (go_at_call 24; refine (HP.out _ _ HT.out).mono ?_; rintro e V ⟨rfl, h1⟩; have H1 := Lib.hid ((own_newRow h1 (g0, g1, g2, g3) 37).perm (List.perm_middle (l₁ := [_, _]))); obtain ⟨z0, z1, z2, z3⟩ := own_rowM (p := V.heap.size) (r := (g0, g1, g2, g3)) H1.out (by simp); obtain ⟨⟨u0, u1, u2, u3, u4, u5⟩, hfz⟩ := own_ansM (p := w.heap.size + 1) (r := zr) (b := false) (e := 0) H1.out (by simp); have f0 := hfz 0 (by omega); have f1 := hfz 1 (by omega); have f2 := hfz 2 (by omega); have f3 := hfz 3 (by omega); have f4 := hfz 4 (by omega); have f5 := hfz 5 (by omega); clear h1 hfz)
    have h6 := own_ansSet (r' := (g0, g1, g2, g3)) (b' := pb) (e' := pe) H1.out
    obtain ⟨⟨t0, t1, t2, t3, t4, t5⟩, _⟩ := own_ansM h6 (List.mem_cons_self ..)
    simp only at t0 t1 t2 t3 t4 t5
    refine bodyPost_ret (v := .agg #[.int .i64 g0, .int .i64 g1, .int .i64 g2, .int .i64 g3, .bool pb, .int .i64 pe]) (by simp [results, Try.results27, go_sem, t0, t1, t2, t3, t4, t5]) rfl ?_
    exact ⟨rfl, h6.drop.drop.swap.drop⟩
  have hk0 : decide (ask = 0) = false := decide_eq_false h0
  by_cases h1 : ask = 1
  · subst h1
    have HS : Hid (stepT most (1, k, r0, r1, r2, r3) L = delT k L) := Lib.hid (by simp [stepT])
    have HAn : Hid (ansT most (1, k, r0, r1, r2, r3) L = ((g0, g1, g2, g3), false, getE k L)) := Lib.hid (by simp [ansT, hgr])
    rw [HS.out, HAn.out]
    have HP : Hid (∀ (X : List Rs) V, Own B w0 (TabR tb most o L :: X) V → Calls Try.prog 26 #[ptrV tb, .string ⟨k.toArray⟩] V fun e V2 => e = .returned (.tuple #[.agg #[.int .i64 g0, .int .i64 g1, .int .i64 g2, .int .i64 g3], .int .i64 (getE k L)]) ∧ Own B w0 (TabR tb most o (delT k L) :: X) V2) := Lib.hid (fun X V h => by
      have := own_tabDel k h
      rwa [hgr] at this)
    obtain ⟨pe, hpe⟩ : ∃ pe, getE k L = pe := ⟨_, rfl⟩
    rw [hpe] at HP ⊢
    clear hpe hgr h0
    go_enter Try.func27, Try.ntmps27
    go_wp2_with (go_at_call 26; refine (HP.out _ _ HT.out).mono ?_; rintro e V ⟨rfl, h1⟩; have H1 := Lib.hid ((own_newRow h1 (g0, g1, g2, g3) 37).perm (List.perm_middle (l₁ := [_, _]))); obtain ⟨z0, z1, z2, z3⟩ := own_rowM (p := V.heap.size) (r := (g0, g1, g2, g3)) H1.out (by simp); obtain ⟨⟨u0, u1, u2, u3, u4, u5⟩, hfz⟩ := own_ansM (p := w.heap.size + 1) (r := zr) (b := false) (e := 0) H1.out (by simp); have f0 := hfz 0 (by omega); have f1 := hfz 1 (by omega); have f2 := hfz 2 (by omega); have f3 := hfz 3 (by omega); have f4 := hfz 4 (by omega); have f5 := hfz 5 (by omega); clear h1 hfz)
    have h6 := own_ansSet (r' := (g0, g1, g2, g3)) (b' := false) (e' := pe) H1.out
    obtain ⟨⟨t0, t1, t2, t3, t4, t5⟩, _⟩ := own_ansM h6 (List.mem_cons_self ..)
    simp only at t0 t1 t2 t3 t4 t5
    refine bodyPost_ret (v := .agg #[.int .i64 g0, .int .i64 g1, .int .i64 g2, .int .i64 g3, .bool false, .int .i64 pe]) (by simp [results, Try.results27, go_sem, t0, t1, t2, t3, t4, t5]) rfl ?_
    exact ⟨rfl, h6.drop.drop.swap.drop⟩
  have HS : Hid (stepT most (ask, k, r0, r1, r2, r3) L = L) := Lib.hid (by simp [stepT, h0, h1])
  have HAn : Hid (ansT most (ask, k, r0, r1, r2, r3) L = ((g0, g1, g2, g3), false, getE k L)) := Lib.hid (by simp [ansT, hgr, h0])
  rw [HS.out, HAn.out]
  have HP : Hid (∀ (X : List Rs) V, Own B w0 (TabR tb most o L :: X) V → Calls Try.prog 16 #[ptrV tb, .string ⟨k.toArray⟩] V fun e V2 => e = .returned (.tuple #[.agg #[.int .i64 g0, .int .i64 g1, .int .i64 g2, .int .i64 g3], .int .i64 (getE k L)]) ∧ Own B w0 (TabR tb most o L :: X) V2) := Lib.hid (fun X V h => by
    have := own_tabGet k h
    rw [hgr] at this
    exact this.mono (fun e V2 ⟨e1, e2⟩ => ⟨e1, h.later e2⟩))
  obtain ⟨pe, hpe⟩ : ∃ pe, getE k L = pe := ⟨_, rfl⟩
  rw [hpe] at HP ⊢
  clear hpe hgr
  go_enter Try.func27, Try.ntmps27
  go_wp2_with (go_at_call 16; refine (HP.out _ _ HT.out).mono ?_; rintro e V ⟨rfl, h1⟩; have H1 := Lib.hid ((own_newRow h1 (g0, g1, g2, g3) 37).perm (List.perm_middle (l₁ := [_, _]))); obtain ⟨z0, z1, z2, z3⟩ := own_rowM (p := V.heap.size) (r := (g0, g1, g2, g3)) H1.out (by simp); obtain ⟨⟨u0, u1, u2, u3, u4, u5⟩, hfz⟩ := own_ansM (p := w.heap.size + 1) (r := zr) (b := false) (e := 0) H1.out (by simp); have f0 := hfz 0 (by omega); have f1 := hfz 1 (by omega); have f2 := hfz 2 (by omega); have f3 := hfz 3 (by omega); have f4 := hfz 4 (by omega); have f5 := hfz 5 (by omega); clear h1 hfz)
  have h6 := own_ansSet (r' := (g0, g1, g2, g3)) (b' := false) (e' := pe) H1.out
  obtain ⟨⟨t0, t1, t2, t3, t4, t5⟩, _⟩ := own_ansM h6 (List.mem_cons_self ..)
  simp only at t0 t1 t2 t3 t4 t5
  refine bodyPost_ret (v := .agg #[.int .i64 g0, .int .i64 g1, .int .i64 g2, .int .i64 g3, .bool false, .int .i64 pe]) (by simp [results, Try.results27, go_sem, t0, t1, t2, t3, t4, t5]) rfl ?_
  exact ⟨rfl, h6.drop.drop.swap.drop⟩
end
set_option maxHeartbeats 16000000 in
set_option maxRecDepth 100000 in
theorem tableCommutes_walk (m0 : Int) (a : Option Addr) (c : Nat) (l : List OpT) (p q : OpT) (w : World) (hr : Rd w 6 a l.length c (opsV l)) (hok : ∀ x ∈ l, OkOp x) (hp : OkOp p) (hq : OkOp q) :
    Calls Try.prog 8 #[.int .i64 m0, .slice a l.length c, .agg (opV p ++ opV q).toArray] w (Yes w) := by
  obtain ⟨ask, k, r0, r1, r2, r3⟩ := p
  obtain ⟨bsk, j, s0, s1, s2, s3⟩ := q
  show Calls _ _ #[.int .i64 m0, .slice a l.length c, .agg #[.int .i64 ask, .string ⟨k.toArray⟩, .int .i64 r0, .int .i64 r1, .int .i64 r2, .int .i64 r3, .int .i64 bsk, .string ⟨j.toArray⟩, .int .i64 s0, .int .i64 s1, .int .i64 s2, .int .i64 s3]] w _
  have hcap := hr.cap
  have hle := hr.le
  unfold maxLen at hcap
  have HA := Lib.hid (fun W => awakeT_any W)
  have hb0 := al1 w (.cells #[.int .i64 ask, .string ⟨k.toArray⟩, .int .i64 r0, .int .i64 r1, .int .i64 r2, .int .i64 r3, .int .i64 bsk, .string ⟨j.toArray⟩, .int .i64 s0, .int .i64 s1, .int .i64 s2, .int .i64 s3] 62)
  obtain ⟨W, hW⟩ : ∃ W, w.alloc (.cells #[.int .i64 ask, .string ⟨k.toArray⟩, .int .i64 r0, .int .i64 r1, .int .i64 r2, .int .i64 r3, .int .i64 bsk, .string ⟨j.toArray⟩, .int .i64 s0, .int .i64 s1, .int .i64 s2, .int .i64 s3] 62) = W := ⟨_, rfl⟩
  have hx : W.cell? ⟨w.heap.size, 0, none⟩ = some (.int .i64 ask) ∧ W.cell? ⟨w.heap.size, 1, none⟩ = some (.string ⟨k.toArray⟩) ∧ W.cell? ⟨w.heap.size, 2, none⟩ = some (.int .i64 r0) ∧ W.cell? ⟨w.heap.size, 3, none⟩ = some (.int .i64 r1) ∧ W.cell? ⟨w.heap.size, 4, none⟩ = some (.int .i64 r2) ∧ W.cell? ⟨w.heap.size, 5, none⟩ = some (.int .i64 r3) ∧ W.cell? ⟨w.heap.size, 6, none⟩ = some (.int .i64 bsk) ∧ W.cell? ⟨w.heap.size, 7, none⟩ = some (.string ⟨j.toArray⟩) ∧ W.cell? ⟨w.heap.size, 8, none⟩ = some (.int .i64 s0) ∧ W.cell? ⟨w.heap.size, 9, none⟩ = some (.int .i64 s1) ∧ W.cell? ⟨w.heap.size, 10, none⟩ = some (.int .i64 s2) ∧ W.cell? ⟨w.heap.size, 11, none⟩ = some (.int .i64 s3) := by rw [← hW]; refine ⟨?_, ?_, ?_, ?_, ?_, ?_, ?_, ?_, ?_, ?_, ?_, ?_⟩ <;> simp
  rw [hW] at hb0
  have HX : Hid (∀ V, Below W.heap.size W V → V.cell? ⟨w.heap.size, 0, none⟩ = some (.int .i64 ask) ∧ V.cell? ⟨w.heap.size, 1, none⟩ = some (.string ⟨k.toArray⟩) ∧ V.cell? ⟨w.heap.size, 2, none⟩ = some (.int .i64 r0) ∧ V.cell? ⟨w.heap.size, 3, none⟩ = some (.int .i64 r1) ∧ V.cell? ⟨w.heap.size, 4, none⟩ = some (.int .i64 r2) ∧ V.cell? ⟨w.heap.size, 5, none⟩ = some (.int .i64 r3) ∧ V.cell? ⟨w.heap.size, 6, none⟩ = some (.int .i64 bsk) ∧ V.cell? ⟨w.heap.size, 7, none⟩ = some (.string ⟨j.toArray⟩) ∧ V.cell? ⟨w.heap.size, 8, none⟩ = some (.int .i64 s0) ∧ V.cell? ⟨w.heap.size, 9, none⟩ = some (.int .i64 s1) ∧ V.cell? ⟨w.heap.size, 10, none⟩ = some (.int .i64 s2) ∧ V.cell? ⟨w.heap.size, 11, none⟩ = some (.int .i64 s3)) := Lib.hid (fun V hb => by
    obtain ⟨y0, y1, y2, y3, y4, y5, y6, y7, y8, y9, y10, y11⟩ := hx
    exact ⟨old_cell y0 hb, old_cell y1 hb, old_cell y2 hb, old_cell y3 hb, old_cell y4 hb, old_cell y5 hb, old_cell y6 hb, old_cell y7 hb, old_cell y8 hb, old_cell y9 hb, old_cell y10 hb, old_cell y11 hb⟩)
  obtain ⟨x0, x1, x2, x3, x4, x5, x6, x7, x8, x9, x10, x11⟩ := hx
  have HEnd : Hid (∀ V, Below W.heap.size W V → Below w.heap.size w V) := Lib.hid (fun V hb => hb0.trans (hb.mono hb0.size))
  have HRt := Lib.hid (fun W => right_any m0 W)
  have HF := Lib.hid (fun V (hb : Below W.heap.size W V) => few_any a c l (by omega) hok V ((hr.later hb0).later hb))
  have HR := Lib.hid (And.intro (hr.later hb0) hok)
  have HIn := Lib.hid (And.intro hp hq)
  have hkl : k.length ≤ 9223372036854775807 := hp.1
  have hjl : j.length ≤ 9223372036854775807 := hq.1
  clear hb0 hr hok hp hq
  by_cases hm : okMost m0 = true
  case neg =>
    have hm2 : okMost m0 = false := by simpa using hm
    rw [hm2] at HRt
    clear hm hm2
    go_enter Try.func8, Try.ntmps8
    go_wp2_with (first | (go_at_call 10; refine (HRt.out _).mono ?_; rintro e V1 ⟨rfl, rfl⟩) | (go_at_call 12; refine (HA.out _).mono ?_; rintro e V9 ⟨rfl, hb⟩; have H9 := Lib.hid ((Below.refl W.heap.size W).trans (hb.mono (Below.refl W.heap.size W).size)); clear hb))
    go_ret
    exact ⟨rfl, HEnd.out _ H9.out⟩
  rw [hm] at HRt
  have hm3 : 1 ≤ m0 ∧ m0 ≤ 1024 := by unfold okMost at hm; simpa using hm
  obtain ⟨most, rfl⟩ : ∃ n : Nat, m0 = n := ⟨m0.toNat, by omega⟩
  have hmm : 1 ≤ most ∧ most ≤ 1024 := by omega
  clear hm hm3
  by_cases hf : fewT l
  case neg =>
    have hff : decide (fewT l) = false := by simpa using hf
    rw [hff] at HF
    clear hf hff hmm
    go_enter Try.func8, Try.ntmps8
    go_wp2_with (first | (go_at_call 10; refine (HRt.out _).mono ?_; rintro e V1 ⟨rfl, rfl⟩) | (go_at_call 11; refine (HF.out _ (Below.refl _ _)).mono ?_; rintro e V2 ⟨rfl, rfl⟩) | (go_at_call 12; refine (HA.out _).mono ?_; rintro e V9 ⟨rfl, hb⟩; have H9 := Lib.hid ((Below.refl W.heap.size W).trans (hb.mono (Below.refl W.heap.size W).size)); clear hb))
    go_ret
    exact ⟨rfl, HEnd.out _ H9.out⟩
  have hff : decide (fewT l) = true := by simpa using hf
  rw [hff] at HF
  clear hf hff
  by_cases hk : k.length ≤ 100
  case neg =>
    have hk1 : (100 : Int) < (k.length : Int) := by omega
    clear hmm hk
    go_enter Try.func8, Try.ntmps8
    go_wp2_with (first | (go_at_call 10; refine (HRt.out _).mono ?_; rintro e V1 ⟨rfl, rfl⟩) | (go_at_call 11; refine (HF.out _ (Below.refl _ _)).mono ?_; rintro e V2 ⟨rfl, rfl⟩) | (go_at_call 12; refine (HA.out _).mono ?_; rintro e V9 ⟨rfl, hb⟩; have H9 := Lib.hid ((Below.refl W.heap.size W).trans (hb.mono (Below.refl W.heap.size W).size)); clear hb))
    go_ret
    exact ⟨rfl, HEnd.out _ H9.out⟩
  have hk1 : (k.length : Int) ≤ 100 := by omega
  by_cases hj : j.length ≤ 100
  case neg =>
    have hj1 : (100 : Int) < (j.length : Int) := by omega
    clear hmm hk hj
    go_enter Try.func8, Try.ntmps8
    go_wp2_with (first | (go_at_call 10; refine (HRt.out _).mono ?_; rintro e V1 ⟨rfl, rfl⟩) | (go_at_call 11; refine (HF.out _ (Below.refl _ _)).mono ?_; rintro e V2 ⟨rfl, rfl⟩) | (go_at_call 12; refine (HA.out _).mono ?_; rintro e V9 ⟨rfl, hb⟩; have H9 := Lib.hid ((Below.refl W.heap.size W).trans (hb.mono (Below.refl W.heap.size W).size)); clear hb))
    go_ret
    exact ⟨rfl, HEnd.out _ H9.out⟩
  have hj1 : (j.length : Int) ≤ 100 := by omega
  have qk := Ks.str_eql 9 k j
  by_cases hkj : k = j
  case pos =>
    rw [show (k == j) = true by simpa using hkj] at qk
    clear hmm hk hj hkj
    go_enter Try.func8, Try.ntmps8
    go_wp2_with (first | (go_at_call 10; refine (HRt.out _).mono ?_; rintro e V1 ⟨rfl, rfl⟩) | (go_at_call 11; refine (HF.out _ (Below.refl _ _)).mono ?_; rintro e V2 ⟨rfl, rfl⟩) | (go_at_call 12; refine (HA.out _).mono ?_; rintro e V9 ⟨rfl, hb⟩; have H9 := Lib.hid ((Below.refl W.heap.size W).trans (hb.mono (Below.refl W.heap.size W).size)); clear hb))
    go_ret
    exact ⟨rfl, HEnd.out _ H9.out⟩
  rw [show (k == j) = false by simpa using hkj] at qk
  have HNe := Lib.hid hkj
  clear hk hj hkj
  have HM := Lib.hid (fun X V (h : Own W.heap.size W X V) => own_made most hmm a c l (HR.out.1.later h.low) HR.out.2 h)
  obtain ⟨L, hL⟩ : ∃ L, runT most l = L := ⟨_, rfl⟩
  rw [hL] at HM
  have HLen := Lib.hid (fun tb X V (h : Own W.heap.size W (TabR tb most 2 L :: X) V) => own_tabLen h)
  obtain ⟨n, hn⟩ : ∃ n, L.length = n := ⟨_, rfl⟩
  rw [hn] at HLen
  have HN : Hid (∀ tb (X : List Rs) V, Own W.heap.size W (TabR tb most 2 L :: X) V → n ≤ most) := Lib.hid (fun tb X V h => by rw [← hn]; exact (own_tabOk h).len)
  have tok0 : True := trivial
  by_cases hroom : n + 2 ≤ most
  case neg =>
    have hr1 : (most : Int) < (n : Int) + 2 := by omega
    clear hroom hL hn
    have hmb : (most : Int) ≤ 1024 := by omega
    clear hmm
    go_enter Try.func8, Try.ntmps8
    go_wp2_with (first
      | (go_at_call 10; refine (HRt.out _).mono ?_; rintro e V1 ⟨rfl, rfl⟩)
      | (go_at_call 11; refine (HF.out _ (Below.refl _ _)).mono ?_; rintro e V2 ⟨rfl, rfl⟩)
      | (go_at_call 13; have _t := tok0; refine (HM.out _ _ (Own.nil W)).mono ?_; rintro e V3 ⟨tb, r, rfl, hb3, h3⟩; have H3 := Lib.hid h3; clear h3 hb3 tok0 _t)
      | (go_at_call 13; refine (HM.out _ _ H3.out).mono ?_; rintro e V4 ⟨tu, ru, rfl, hb4, h4⟩; have H4 := Lib.hid h4; obtain ⟨y0, y1, y2, y3, y4, y5, y6, y7, y8, y9, y10, y11⟩ := HX.out _ h4.low; clear h4 hb4)
      | (go_at_call 15; have hnb := HN.out _ _ _ H4.out.third; refine (HLen.out _ _ _ H4.out.third).mono ?_; rintro e V5 ⟨rfl, rfl⟩)
      | (go_at_call 12; refine (HA.out _).mono ?_; rintro e V9 ⟨rfl, hb⟩; have H9 := Lib.hid ((H4.out.low).trans (hb.mono (H4.out.low).size)); clear hb))
    go_ret
    exact ⟨rfl, HEnd.out _ H9.out⟩
  have hr1 : (n : Int) + 2 ≤ (most : Int) := by omega
  have hr2 : ¬ (most : Int) < (n : Int) + 2 := by omega
  have hmb : (most : Int) ≤ 1024 := by omega
  have HSo : Hid (∀ tb (X : List Rs) V, Own W.heap.size W (TabR tb most 2 L :: X) V → Sorted L) := Lib.hid (fun tb X V h => own_tabSorted h)
  have HRoom : Hid (L.length + 2 ≤ most) := Lib.hid (by omega)
  obtain ⟨x, hx⟩ : ∃ x : OpT, x = (ask, k, r0, r1, r2, r3) := ⟨_, rfl⟩
  obtain ⟨y, hy⟩ : ∃ y : OpT, y = (bsk, j, s0, s1, s2, s3) := ⟨_, rfl⟩
  have hkx : x.2.1 = k := by rw [hx]
  have hky : y.2.1 = j := by rw [hy]
  obtain ⟨Lx, hLx⟩ : ∃ M, actT x L = M := ⟨_, rfl⟩
  obtain ⟨Ly, hLy⟩ : ∃ M, actT y L = M := ⟨_, rfl⟩
  obtain ⟨Lxy, hLxy⟩ : ∃ M, actT y Lx = M := ⟨_, rfl⟩
  have e1 : stepT most x L = Lx := by rw [step_act x (by have := HRoom.out; omega), hLx]
  have e2 : stepT most y L = Ly := by rw [step_act y (by have := HRoom.out; omega), hLy]
  have e3 : stepT most y Lx = Lxy := by
    have := act_len x L
    rw [hLx] at this
    rw [step_act y (by have := HRoom.out; omega), hLxy]
  have e4 : Sorted L → stepT most x Ly = Lxy := fun hs => by
    have := act_len y L
    rw [hLy] at this
    rw [step_act x (by have := HRoom.out; omega), ← hLy, act_two x y hs (by rw [hkx, hky]; exact HNe.out), hLx, hLxy]
  obtain ⟨⟨⟨a0, a1, a2, a3⟩, ab, ae⟩, hax⟩ : ∃ v, ansT most x L = v := ⟨_, rfl⟩
  obtain ⟨⟨⟨b0, b1, b2, b3⟩, bb, be⟩, hay⟩ : ∃ v, ansT most y L = v := ⟨_, rfl⟩
  have e5 : Sorted L → ansT most y Lx = ((b0, b1, b2, b3), bb, be) := fun hs => by rw [← hLx, ans_two y x hs (by rw [hkx, hky]; exact fun e => HNe.out e.symm) HRoom.out, hay]
  have e6 : Sorted L → ansT most x Ly = ((a0, a1, a2, a3), ab, ae) := fun hs => by rw [← hLy, ans_two x y hs (by rw [hkx, hky]; exact HNe.out) HRoom.out, hax]
  have HD1 : Hid (∀ tb (X : List Rs) V, Own W.heap.size W (TabR tb most 2 L :: X) V → Calls Try.prog 27 #[ptrV tb, .agg #[.int .i64 ask, .string ⟨k.toArray⟩, .int .i64 r0, .int .i64 r1, .int .i64 r2, .int .i64 r3]] V fun e V2 => e = .returned (.agg #[.int .i64 a0, .int .i64 a1, .int .i64 a2, .int .i64 a3, .bool ab, .int .i64 ae]) ∧ Own W.heap.size W (TabR tb most 2 Lx :: X) V2) := Lib.hid (fun tb X V h => by
    have := own_ans x (by rw [hx]; exact HIn.out.1) h
    rw [hax, e1, hx] at this
    exact this)
  have HD2 : Hid (∀ tb (X Z : List Rs) tb2 V V0, Own W.heap.size W (TabR tb2 most 2 L :: Z) V0 → Own W.heap.size W (TabR tb most 2 Lx :: X) V → Calls Try.prog 27 #[ptrV tb, .agg #[.int .i64 bsk, .string ⟨j.toArray⟩, .int .i64 s0, .int .i64 s1, .int .i64 s2, .int .i64 s3]] V fun e V2 => e = .returned (.agg #[.int .i64 b0, .int .i64 b1, .int .i64 b2, .int .i64 b3, .bool bb, .int .i64 be]) ∧ Own W.heap.size W (TabR tb most 2 Lxy :: X) V2) := Lib.hid (fun tb X Z tb2 V V0 h0 h => by
    have := own_ans y (by rw [hy]; exact HIn.out.2) h
    rw [e5 (own_tabSorted h0), e3, hy] at this
    exact this)
  have HD3 : Hid (∀ tb (X : List Rs) V, Own W.heap.size W (TabR tb most 2 L :: X) V → Calls Try.prog 27 #[ptrV tb, .agg #[.int .i64 bsk, .string ⟨j.toArray⟩, .int .i64 s0, .int .i64 s1, .int .i64 s2, .int .i64 s3]] V fun e V2 => e = .returned (.agg #[.int .i64 b0, .int .i64 b1, .int .i64 b2, .int .i64 b3, .bool bb, .int .i64 be]) ∧ Own W.heap.size W (TabR tb most 2 Ly :: X) V2) := Lib.hid (fun tb X V h => by
    have := own_ans y (by rw [hy]; exact HIn.out.2) h
    rw [hay, e2, hy] at this
    exact this)
  have HD4 : Hid (∀ tb (X Z : List Rs) tb2 V V0, Own W.heap.size W (TabR tb2 most 2 L :: Z) V0 → Own W.heap.size W (TabR tb most 2 Ly :: X) V → Calls Try.prog 27 #[ptrV tb, .agg #[.int .i64 ask, .string ⟨k.toArray⟩, .int .i64 r0, .int .i64 r1, .int .i64 r2, .int .i64 r3]] V fun e V2 => e = .returned (.agg #[.int .i64 a0, .int .i64 a1, .int .i64 a2, .int .i64 a3, .bool ab, .int .i64 ae]) ∧ Own W.heap.size W (TabR tb most 2 Lxy :: X) V2) := Lib.hid (fun tb X Z tb2 V V0 h0 h => by
    have := own_ans x (by rw [hx]; exact HIn.out.1) h
    rw [e6 (own_tabSorted h0), e4 (own_tabSorted h0), hx] at this
    exact this)
  have HSm : Hid (∀ t1 t2 (X : List Rs) V, Own W.heap.size W (TabR t1 most 2 Lxy :: TabR t2 most 2 Lxy :: X) V → Calls Try.prog 28 #[ptrV t1, ptrV t2] V fun e V2 => e = .returned (.bool true) ∧ Below V.heap.size V V2) := Lib.hid (fun t1 t2 X V h => by
    have := own_tabSame h
    simpa using this)
  have HC := Lib.hid (fun tb X V (h : Own W.heap.size W (TabR tb most 2 Lxy :: X) V) => own_tabCheck h)
  have qa := eqlAns a0 a1 a2 a3 ab ae
  have qb := eqlAns b0 b1 b2 b3 bb be
  clear hroom hL hn hx hy hkx hky hLx hLy hLxy e1 e2 e3 e4 e5 e6 hax hay hmm
  have tok1 : True := trivial
  have tok2 : True := trivial
  have tok3 : True := trivial
  have tok4 : True := trivial
  go_enter Try.func8, Try.ntmps8
  go_wp2_with (first
    | (go_at_call 10; refine (HRt.out _).mono ?_; rintro e V1 ⟨rfl, rfl⟩)
    | (go_at_call 11; refine (HF.out _ (Below.refl _ _)).mono ?_; rintro e V2 ⟨rfl, rfl⟩)
    | (go_at_call 13; have _t := tok0; refine (HM.out _ _ (Own.nil W)).mono ?_; rintro e V3 ⟨tb, r, rfl, hb3, h3⟩; have H3 := Lib.hid h3; clear h3 hb3 tok0 _t)
    | (go_at_call 13; refine (HM.out _ _ H3.out).mono ?_; rintro e V4 ⟨tu, ru, rfl, hb4, h4⟩; have H4 := Lib.hid h4; obtain ⟨y0, y1, y2, y3, y4, y5, y6, y7, y8, y9, y10, y11⟩ := HX.out _ h4.low; clear h4 hb4)
    | (go_at_call 15; have hnb := HN.out _ _ _ H4.out.third; refine (HLen.out _ _ _ H4.out.third).mono ?_; rintro e V5 ⟨rfl, rfl⟩)
    | (go_at_call 27; have _t := tok1; refine (HD1.out _ _ _ H4.out.third).mono ?_; rintro e V6 ⟨rfl, h⟩; have H6 := Lib.hid (own_newAns h (a0, a1, a2, a3) ab ae 64); obtain ⟨z0, z1, z2, z3, z4, z5, z6, z7, z8, z9, z10, z11⟩ := HX.out _ H6.out.low; clear h tok1 _t)
    | (go_at_call 27; have _t := tok2; refine (HD2.out _ _ _ _ _ _ H4.out H6.out.swap).mono ?_; rintro e V7 ⟨rfl, h⟩; have H7 := Lib.hid (own_newAns h (b0, b1, b2, b3) bb be 64); obtain ⟨u0, u1, u2, u3, u4, u5, u6, u7, u8, u9, u10, u11⟩ := HX.out _ H7.out.low; clear h tok2 _t)
    | (go_at_call 27; have _t := tok3; refine (HD3.out _ _ _ (H7.out.perm (List.perm_middle (l₁ := [_, _, _])))).mono ?_; rintro e V8 ⟨rfl, h⟩; have H8 := Lib.hid (own_newAns h (b0, b1, b2, b3) bb be 64); obtain ⟨v0, v1, v2, v3, v4, v5, v6, v7, v8, v9, v10, v11⟩ := HX.out _ H8.out.low; clear h tok3 _t)
    | (go_at_call 27; refine (HD4.out _ _ _ _ _ _ H4.out H8.out.swap).mono ?_; rintro e V9 ⟨rfl, h⟩; have H9a := Lib.hid (own_newAns h (a0, a1, a2, a3) ab ae 64); obtain ⟨⟨pa0, pa1, pa2, pa3, pa4, pa5⟩, _⟩ := own_ansM (p := V6.heap.size) (r := (a0, a1, a2, a3)) (b := ab) (e := ae) H9a.out (by simp); obtain ⟨⟨pb0, pb1, pb2, pb3, pb4, pb5⟩, _⟩ := own_ansM (p := V7.heap.size) (r := (b0, b1, b2, b3)) (b := bb) (e := be) H9a.out (by simp); obtain ⟨⟨pc0, pc1, pc2, pc3, pc4, pc5⟩, _⟩ := own_ansM (p := V8.heap.size) (r := (b0, b1, b2, b3)) (b := bb) (e := be) H9a.out (by simp); obtain ⟨⟨pd0, pd1, pd2, pd3, pd4, pd5⟩, _⟩ := own_ansM (p := V9.heap.size) (r := (a0, a1, a2, a3)) (b := ab) (e := ae) H9a.out (by simp); have HE := Lib.hid (H9a.out.perm ((List.Perm.swap _ _ _).trans (List.perm_middle (l₁ := [_, _, _, _])))); clear h)
    | (go_at_call 28; refine (HSm.out _ _ _ _ HE.out).mono ?_; rintro e V10 ⟨rfl, hb⟩; have HE1 := Lib.hid (HE.out.later hb); clear hb)
    | (go_at_call 22; have _t := tok4; refine (HC.out _ _ _ HE1.out).mono ?_; rintro e V11 ⟨rfl, hb⟩; have HE2 := Lib.hid (HE1.out.later hb); clear hb tok4 _t)
    | (go_at_call 22; refine (HC.out _ _ _ HE2.out.swap).mono ?_; rintro e V12 ⟨rfl, hb⟩; have HE3 := Lib.hid (HE2.out.later hb); clear hb)
    | (go_at_call 12; refine (HA.out _).mono ?_; rintro e V9 ⟨rfl, hb⟩; have H9 := Lib.hid ((HE3.out.low).trans (hb.mono (HE3.out.low).size)); clear hb))
  go_ret
  exact ⟨rfl, HEnd.out _ H9.out⟩
end Tb
end Go.Proofs.Ytecnijnmgdfdhaa
