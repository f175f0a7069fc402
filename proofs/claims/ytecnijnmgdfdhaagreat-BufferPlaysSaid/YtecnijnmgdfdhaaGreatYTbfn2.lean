/- Joined: Tbfn2. -/
import Derived.Test.YtecnijnmgdfdhaaGreatYTbfn1
import Derived.Test.YtecnijnmgdfdhaaGreatYTbdoc4
import Derived.Test.YtecnijnmgdfdhaaGreatYKeys
import Derived.Test.YtecnijnmgdfdhaaGreatYTabC
namespace Go.Proofs.YtecnijnmgdfdhaaGreat
namespace Tb
open Go.RowKit Tr
open Ky (less)
theorem sizeRow (w : World) : (sizeOf (Tryz.prog.elem 45)).run Tryz.prog w = .ok 5 w := by kernel_rfl
section
variable {r : Nat} {F : Foot} {a : Option Addr} {cc most : Nat} {L : List Pr}
theorem row_cells {q0 q1 q2 q3 : Int} {pk : Str} {c : Nat} (hc : c < 4) : ([.string ⟨pk.toArray⟩, .int .i64 q0, .int .i64 q1, .int .i64 q2, .int .i64 q3] : List Value)[1 + c]? = some (.int .i64 (col (q0, q1, q2, q3) c)) := by
 have : c = 0 ∨ c = 1 ∨ c = 2 ∨ c = 3 := by omega
 rcases this with rfl | rfl | rfl | rfl <;> rfl
theorem rowsV_col {L : List Pr} {i : Nat} {p : Pr} (h : L[i]? = some p) {c : Nat} (hc : c < 4) : (rowsV L)[i * 5 + 1 + c]? = some (.int .i64 (col (decT p.2) c)) := by
 obtain ⟨_, g1, g2, g3, g4⟩ := rowsV_get h
 have : c = 0 ∨ c = 1 ∨ c = 2 ∨ c = 3 := by omega
 rcases this with rfl | rfl | rfl | rfl
 ·exact g1
 ·exact g2
 ·exact g3
 ·exact g4
theorem found_at {w : World} {a : Option Addr} {n k : Nat} {L : List Pr} (h : Rd w 5 a n k (rowsV L)) {i : Nat} {p : Pr} (hp : L[i]? = some p) {c : Nat} (hc : c < 4) :
  ∃ b o, a = some ⟨b, o, none⟩ ∧ w.cell? ⟨b, o + i * 5, none⟩ = some (.string ⟨p.1.toArray⟩) ∧ w.cell? ⟨b, o + i * 5 + 1 + c, none⟩ = some (.int .i64 (col (decT p.2) c)) := by
 obtain ⟨g0, _⟩ := rowsV_get hp
 obtain ⟨b, o, e, h2⟩ := h.addr (by intro h0; rw [h0] at g0; simp at g0)
 have k1 := h2 _ _ (rowsV_col hp hc)
 rw [Nat.add_assoc, ← Nat.add_assoc o, ← Nat.add_assoc] at k1
 exact ⟨b, o, e, h2 _ _ g0, k1⟩
theorem cmp_ent {c : Nat} {p q : Pr} (hp : Ky.In (col (decT p.2) c)) (hq : Ky.In (col (decT q.2) c)) : (Ky.cmpE (col (decT q.2) c) q.1 (col (decT p.2) c) p.1 < 0) ↔ less (ent c q) (ent c p) = true := by
 unfold ent
 rw [Ky.put_less hq hp, decide_eq_true_eq]
set_option maxHeartbeats 16000000 in
set_option maxRecDepth 100000 in
theorem docFind_any (c : Nat) (hc : c < 4) (lo hi0 : Int) (m : Nat) (hn : L.length ≤ 100000) (ok : OkT L) (hs : Sorted L) (w : World) (ht : Tdl w r F a cc most L) :
  Calls Tryz.prog 20 #[ptrV r, .int .i64 c, .agg #[.int .i64 lo, .int .i64 hi0], .int .i64 m] w fun e V => ∃ (b : Option Addr) (k : Nat), e = .returned (.slice b (((findF c lo hi0 L).map (fun p => p.1)).take m).length k) ∧
   Own w.heap.size w [SlR 1 b (((findF c lo hi0 L).map (fun p => p.1)).take m).length k (textsV (((findF c lo hi0 L).map (fun p => p.1)).take m))] V := by
 obtain ⟨i0, hi, hz0, hz1, hz2⟩ := info_parts infoRow
 obtain ⟨iS, hiS, hs0, hs1, hs2⟩ := info_parts infoStr
 have h0 := own_cells (Own.nil w) #[.int .i64 lo, .int .i64 hi0] 58
 have hb0 := al1 w (.cells #[.int .i64 lo, .int .i64 hi0] 58)
 obtain ⟨W, hW⟩ : ∃ W, w.alloc (.cells #[.int .i64 lo, .int .i64 hi0] 58) = W := ⟨_, rfl⟩
 have x0 : W.cell? ⟨w.heap.size, 0, none⟩ = some (.int .i64 lo) := by rw [← hW]; simp
 have x1 : W.cell? ⟨w.heap.size, 1, none⟩ = some (.int .i64 hi0) := by rw [← hW]; simp
 rw [hW] at hb0 h0
 have HX : Hid (∀ V, Below W.heap.size W V → V.cell? ⟨w.heap.size, 0, none⟩ = some (.int .i64 lo) ∧ V.cell? ⟨w.heap.size, 1, none⟩ = some (.int .i64 hi0)) := Lib.hid (fun V hb => ⟨old_cell x0 hb, old_cell x1 hb⟩)
 have HEnd : Hid (∀ X V, Own W.heap.size W X V → Own w.heap.size w X V) := Lib.hid (fun X V h => h.since h0 hb0.size)
 have HT : Hid (∀ V, Below W.heap.size W V → Tdl V r F a cc most L) := Lib.hid (fun V hb => (ht.later hb0).later hb)
 obtain ⟨N, hN⟩ : ∃ N, L.length = N := ⟨_, rfl⟩
 have HN := Lib.hid hN
 have HOk := Lib.hid (And.intro ok hs)
 obtain ⟨TT, hTT⟩ : ∃ T, ((findF c lo hi0 L).map (fun p => p.1)).take m = T := ⟨_, rfl⟩
 have HTT := Lib.hid hTT
 rw [hTT]
 obtain ⟨M, hM⟩ : ∃ M, TT.length = M := ⟨_, rfl⟩
 have HMl := Lib.hid hM
 rw [hM]
 have hNb : N ≤ 100000 := by omega
 have hc0 : (0 : Int) ≤ (c : Int) := by omega
 have hc1 : (c : Int) < 4 := by omega
 clear h0 hb0 hn ok hs ht hN hTT hM
 go_enter Tryz.func20, Tryz.ntmps20
 go_wp2
 go_loopw [9, 10] (fun f i wr => ∃ (j n k : Nat) (b : Option Addr), j ≤ N ∧ n ≤ j ∧ i = .int .i64 j ∧ f = .slice b n k ∧ Hid ((findF c lo hi0 (L.take j)).length = n ∧ Own W.heap.size W [SlR 5 b n k (rowsV (findF c lo hi0 (L.take j)))] wr)) (fun _ i _ => N - (intOf i).toNat)
 case atStart => exact ⟨0, 0, 0, none, by omega, by omega, rfl, rfl, Lib.hid ⟨rfl, own_nilSl (Own.nil W) 5⟩⟩
 case round =>
  obtain ⟨j, n, k, b, hj, hnj, rfl, rfl, HJ⟩ := hrel
  obtain ⟨y0, y1⟩ := HX.out _ HJ.out.2.low
  have hTd := HT.out _ HJ.out.2.low
  have c0 := hTd.c0
  rw [HN.out] at c0
  have j0 : (0 : Int) ≤ (j : Int) := by omega
  have j2 : (j : Int) ≤ 100000 := by omega
  by_cases hlt : j < N
  ·have j1 : (j : Int) < (N : Int) := by omega
   obtain ⟨⟨pk, ps⟩, hx⟩ : ∃ x, L[j]? = some x := ⟨_, List.getElem?_eq_getElem (by rw [HN.out]; exact hlt)⟩
   obtain ⟨pb, po, rfl, p0, p1, p2, p3, p4⟩ := hTd.row hx
   obtain ⟨⟨q0, q1, q2, q3⟩, hq⟩ : ∃ q, decT ps = q := ⟨_, rfl⟩
   simp only [hq] at p0 p1 p2 p3 p4
   obtain ⟨v, hv⟩ : ∃ v, col (q0, q1, q2, q3) c = v := ⟨_, rfl⟩
   obtain ⟨Fd, hFd⟩ : ∃ Fd, findF c lo hi0 (L.take j) = Fd := ⟨_, rfl⟩
   have HS := Lib.hid (findF_succ (c := c) (lo := lo) (hi := hi0) hx)
   have hoV : okV c lo hi0 (pk, ps) = decide (lo ≤ v ∧ v ≤ hi0) := by unfold okV; simp only [hq, hv]
   rw [hoV, hFd] at HS
   rw [hFd] at HJ
   have hmp : (pk, ps) ∈ L := List.mem_of_getElem? hx
   have hInv := HOk.out.1.col hmp c
   simp only [hq, hv] at hInv
   have HFd : Hid (∀ q ∈ Fd, Ky.In (col (decT q.2) c) ∧ Ks.okKey q.1 = true) := Lib.hid (fun q hq => by
    rw [← hFd] at hq
    have hm := findF_sub (fun x hx => HOk.out.1 x (List.mem_of_mem_take hx)) (HOk.out.2.sublist (List.take_sublist j L)) q hq
    have hm2 := List.mem_of_mem_take hm
    exact ⟨HOk.out.1.col hm2 c, (HOk.out.1 q hm2).1⟩)
   have HRow : Hid (rowsV [(pk, ps)] = [.string ⟨pk.toArray⟩, .int .i64 q0, .int .i64 q1, .int .i64 q2, .int .i64 q3]) := Lib.hid (by rw [rowsV_cons]; simp only [hq]; rfl)
   have HInv := Lib.hid hInv
   have HDec := Lib.hid (And.intro hq hv)
   have H5a := Lib.hid (own_cells HJ.out.2 #[.string ⟨pk.toArray⟩, .int .i64 q0, .int .i64 q1, .int .i64 q2, .int .i64 q3] 98)
   obtain ⟨P5, hP5⟩ : ∃ P, wr.heap.size = P := ⟨_, rfl⟩
   obtain ⟨wa, hwa⟩ : ∃ wa, wr.alloc (.cells #[.string ⟨pk.toArray⟩, .int .i64 q0, .int .i64 q1, .int .i64 q2, .int .i64 q3] 98) = wa := ⟨_, rfl⟩
   rw [hwa] at H5a
   have H5 : Hid (Own W.heap.size W [CellsR P5 [.string ⟨pk.toArray⟩, .int .i64 q0, .int .i64 q1, .int .i64 q2, .int .i64 q3], SlR 5 b n k (rowsV Fd)] wa) := Lib.hid (by rw [← hP5]; exact H5a.out)
   have HP5 : Hid (∀ (Y : List Rs) V, Own W.heap.size W Y V → CellsR P5 [.string ⟨pk.toArray⟩, .int .i64 q0, .int .i64 q1, .int .i64 q2, .int .i64 q3] ∈ Y → V.cell? ⟨P5, 0, none⟩ = some (.string ⟨pk.toArray⟩) ∧ V.cell? ⟨P5, 1, none⟩ = some (.int .i64 q0) ∧ V.cell? ⟨P5, 2, none⟩ = some (.int .i64 q1) ∧ V.cell? ⟨P5, 3, none⟩ = some (.int .i64 q2) ∧ V.cell? ⟨P5, 4, none⟩ = some (.int .i64 q3)) := Lib.hid (fun Y V h hm =>
    ⟨(own_cellM h hm (i := 0) rfl).1, (own_cellM h hm (i := 1) rfl).1, (own_cellM h hm (i := 2) rfl).1, (own_cellM h hm (i := 3) rfl).1, (own_cellM h hm (i := 4) rfl).1⟩)
   have HPc : Hid (∀ (Y : List Rs) V, Own W.heap.size W Y V → CellsR P5 [.string ⟨pk.toArray⟩, .int .i64 q0, .int .i64 q1, .int .i64 q2, .int .i64 q3] ∈ Y → V.cell? ⟨P5, 1 + c, none⟩ = some (.int .i64 v)) := Lib.hid (fun Y V h hm => by
    have := (own_cellM h hm (row_cells hc)).1
    rwa [hv] at this)
   have HFn : Hid (Fd.length = n) := Lib.hid HJ.out.1
   clear H5a HJ hTd hx hq hv hFd hoV hmp hInv
   go_wp2
   try simp only [hP5, hwa]
   obtain ⟨z0, z1⟩ := HX.out _ H5.out.low
   have z2 := HPc.out _ _ H5.out (by simp)
   clear y0 y1 c0 p0 p1 p2 p3 p4 hP5 hwa
   by_cases hlo : v < lo
   ·have d1 : decide (v < lo) = true := by simpa using hlo
    go_quiet (fail)
    go_wp2
    go_roundw
    case rel =>
     refine ⟨j + 1, n, k, b, by omega, by omega, by go_num, rfl, Lib.hid ?_⟩
     rw [HS.out, if_neg (by simp; omega)]
     exact ⟨HFn.out, H5.out.drop.later (below_drewN wa nq)⟩
    case measure => simp [intOf]; omega
   have d1 : decide (v < lo) = false := by simpa using hlo
   by_cases hhi : hi0 < v
   ·have d2 : decide (hi0 < v) = true := by simpa using hhi
    go_quiet (fail)
    go_wp2
    go_roundw
    case rel =>
     refine ⟨j + 1, n, k, b, by omega, by omega, by go_num, rfl, Lib.hid ?_⟩
     rw [HS.out, if_neg (by simp; omega)]
     exact ⟨HFn.out, H5.out.drop.later (below_drewN wa nq)⟩
    case measure => simp [intOf]; omega
   have d2 : decide (hi0 < v) = false := by simpa using hhi
   have HSc : Hid (findF c lo hi0 (L.take (j + 1)) = addF c (pk, ps) Fd) := Lib.hid (by rw [HS.out, if_pos (by simp; omega)])
   go_quiet (fail)
   have HV := Lib.hid (H5.out.later (below_drewN wa nq))
   obtain ⟨wv, hwv⟩ : ∃ wv, wa.drewN nq = wv := ⟨_, rfl⟩
   rw [hwv] at HV ⊢
   clear hwv z0 z1 z2 H5 HS d1 d2 hlo hhi
   obtain ⟨PL, hPL⟩ : ∃ PL, plF c (pk, ps) Fd = PL := ⟨_, rfl⟩
   have HPL := Lib.hid hPL
   have hPn : PL ≤ n := by rw [← hPL, ← HFn.out]; exact plF_le _ _
   have HLt : Hid (∀ u q, u < PL → Fd[u]? = some q → Ky.cmpE (col (decT q.2) c) q.1 v pk < 0) := Lib.hid (fun u q hu hq => by
    have h1 := (HFd.out q (List.mem_of_getElem? hq)).1
    have h2 := (cmp_ent (p := (pk, ps)) (by simp only [HDec.out.1, HDec.out.2]; exact HInv.out) h1).2 (plF_lt (by rw [hPL]; exact hu) hq)
    simpa only [HDec.out.1, HDec.out.2] using h2)
   have HAt : Hid (∀ q, Fd[PL]? = some q → ¬ Ky.cmpE (col (decT q.2) c) q.1 v pk < 0) := Lib.hid (fun q hq h => by
    have h1 := (HFd.out q (List.mem_of_getElem? hq)).1
    have h2 := (cmp_ent (c := c) (p := (pk, ps)) (q := q) (by simp only [HDec.out.1, HDec.out.2]; exact HInv.out) h1).1 (by simpa only [HDec.out.1, HDec.out.2] using h)
    rw [plF_at (by rw [hPL]; exact hq)] at h2
    cases h2)
   clear hPL
   go_wp2
   go_loopw [12] (fun i wr => ∃ (u : Nat), u ≤ PL ∧ i = .int .i64 u ∧ Hid (Own W.heap.size W [CellsR P5 [.string ⟨pk.toArray⟩, .int .i64 q0, .int .i64 q1, .int .i64 q2, .int .i64 q3], SlR 5 b n k (rowsV Fd)] wr)) (fun i _ => n - (intOf i).toNat)
   case atStart => exact ⟨0, by omega, rfl, HV⟩
   case round =>
    obtain ⟨u, hu, rfl, HU⟩ := hrel
    have u0 : (0 : Int) ≤ (u : Int) := by omega
    by_cases hun : u < n
    ·have u1 : (u : Int) < (n : Int) := by omega
     obtain ⟨⟨gk, gs⟩, hg⟩ : ∃ x, Fd[u]? = some x := ⟨_, List.getElem?_eq_getElem (by rw [HFn.out]; exact hun)⟩
     have hrd := own_rd HU.out.swap
     have hnk := hrd.le
     have hkc := hrd.cap
     obtain ⟨fb, fo, rfl, f0, f1⟩ := found_at hrd hg hc
     have z2 := HPc.out _ _ HU.out (by simp)
     obtain ⟨z0, _, _, _, _⟩ := HP5.out _ _ HU.out (by simp)
     obtain ⟨gv, hgv⟩ : ∃ gv, col (decT gs) c = gv := ⟨_, rfl⟩
     simp only [hgv] at f0 f1
     obtain ⟨cv, hcv⟩ : ∃ cv, Ky.cmpE gv gk v pk = cv := ⟨_, rfl⟩
     have HC : Hid (∀ n2, Calls Tryz.prog 50 #[.int .i64 gv, .string ⟨gk.toArray⟩, .int .i64 v, .string ⟨pk.toArray⟩] (wr.drewN n2) fun e w' => e = .returned (.int .i64 cv) ∧ ∃ m, w' = (wr.drewN n2).drewN m) := Lib.hid (fun n2 => by
      have h1 := (HFd.out _ (List.mem_of_getElem? hg)).2
      have := Ks.refCompare gv gk v pk (by unfold Ks.okKey at h1; simp at h1; omega) (wr.drewN n2)
      rwa [hcv] at this)
     by_cases hup : u < PL
     ·have hneg := HLt.out u _ hup hg
      simp only [hgv, hcv] at hneg
      have d1 : decide (cv < 0) = true := by simpa using hneg
      clear hg hrd hgv hcv
      go_wp2
      go_quiet (first | (go_at_call 50; refine Calls.quiet_of (HC.out _)))
      go_wp2
      go_roundw
      case rel => exact ⟨u + 1, by omega, by go_num, Lib.hid (HU.out.later (below_drewN _ nq))⟩
      case measure => simp [intOf]; omega
     ·obtain rfl : u = PL := by omega
      have hneg := HAt.out _ hg
      simp only [hgv, hcv] at hneg
      have d1 : decide (cv < 0) = false := by simpa using hneg
      have hto := to_ex (P := Tryz.prog) 45 Tryz.underlying45 5 sizeRow (some ⟨fb, fo, none⟩) n k .i64 u (by omega)
      have HRT0 := Lib.hid (show Rd wr 5 (some ⟨fb, fo, none⟩) u k (rowsV (Fd.take u)) by have := hrd.to u (by omega); rwa [rowsV_take] at this)
      obtain ⟨sa, hsa, hRS⟩ : ∃ sa, (∀ W : World, (Instr.slice 45 (.slice (some ⟨fb, fo, none⟩) n k) (some (.int .i64 (u : Int))) none none).run Tryz.prog W = .ok (.slice sa (n - u) (k - u)) W) ∧ ∀ W : World, Rd W 5 (some ⟨fb, fo, none⟩) n k (rowsV Fd) → Rd W 5 sa (n - u) (k - u) ((rowsV Fd).drop (u * 5)) :=
       ⟨_, fun W => run_slice_from 45 Tryz.underlying45 5 Tryz.sizeOf98 (some ⟨fb, fo, none⟩) n k .i64 (u : Int) u (by omega) (by omega) W, fun _ h => h.from u (by omega)⟩
      have HRF : Hid (∀ W : World, Rd W 5 (some ⟨fb, fo, none⟩) n k (rowsV Fd) → Rd W 5 sa (n - u) (k - u) (rowsV (Fd.drop u))) := Lib.hid (fun W h => by have := hRS W h; rwa [rowsV_drop] at this)
      clear hg hrd hgv hcv hRS
      go_wp2
      go_quiet (first | (go_at_call 50; refine Calls.quiet_of (HC.out _)))
      have HW2 := Lib.hid (HU.out.later (below_drewN _ nq))
      have HRT := Lib.hid (HRT0.out.later (below_drewN _ nq))
      clear z0 z2 f0 f1
      go_wp2_with (first
       | (at_builtin; refine wpList_app_own (B := W.heap.size) (w0 := W) rfl (.tmp 76) (.tmp 79) 45 rfl 98 i0 _ 5 48 Tryz.underlying45 hi hz0 hz1 hz2 rfl (by decide) none 0 0 [] rfl (own_nilSl HW2.out 5) (some ⟨fb, fo, none⟩) u k (rowsV (Fd.take u)) rfl HRT.out u (rowsV (Fd.take u)) (Nat.zero_add u) (List.nil_append _) (by unfold maxLen; omega) (by omega) ?_; intro a1 c1 w1 ho; have H1 := Lib.hid ho; obtain ⟨y0, y1, y2, y3, y4⟩ := HP5.out _ _ ho (by simp); clear ho)
       | (at_builtin; refine wpList_app_own (B := W.heap.size) (w0 := W) rfl (.tmp 81) (.tmp 83) 45 rfl 98 i0 _ 5 48 Tryz.underlying45 hi hz0 hz1 hz2 rfl (by decide) a1 u c1 (rowsV (Fd.take u)) rfl (H1.out.later (al1 w1 _)) (some ⟨w1.heap.size, 0, none⟩) 1 1 (rowsV [(pk, ps)]) rfl (by rw [HRow.out]; exact Rd.made w1 [.string ⟨pk.toArray⟩, .int .i64 q0, .int .i64 q1, .int .i64 q2, .int .i64 q3] 98 5 1 rfl (by decide) (fun x hx => by simp at hx; rcases hx with rfl | rfl | rfl | rfl | rfl <;> rfl) (0, 0)) (u + 1) (rowsV (Fd.take u ++ [(pk, ps)])) rfl (rowsV_append _ _).symm (by unfold maxLen; omega) (by omega) ?_; intro a2 c2 w2 ho; have H2 := Lib.hid ho; have HRd2 := Lib.hid (HRF.out _ (own_rd ho.third)); clear ho)
       | (at_builtin; refine wpList_app_own (B := W.heap.size) (w0 := W) rfl (.tmp 85) (.tmp 88) 45 rfl 98 i0 _ 5 48 Tryz.underlying45 hi hz0 hz1 hz2 rfl (by decide) a2 (u + 1) c2 (rowsV (Fd.take u ++ [(pk, ps)])) rfl H2.out sa (n - u) (k - u) (rowsV (Fd.drop u)) rfl HRd2.out (n + 1) (rowsV ((Fd.take u ++ [(pk, ps)]) ++ Fd.drop u)) (by omega) (rowsV_append _ _).symm (by unfold maxLen; omega) (by omega) ?_; intro a3 c3 w3 ho; have H3 := Lib.hid ho; clear ho))
      go_roundw
      case rel =>
       refine ⟨j + 1, n + 1, c3, a3, by omega, by omega, by go_num, by simp, Lib.hid ⟨?_, ?_⟩⟩
       ·rw [HSc.out, addF_len, HFn.out]
       ·have h4 := H3.out.swap.drop.swap.drop
        rw [HSc.out]
        unfold addF
        rw [HPL.out]
        simpa using h4
      case measure => simp [intOf]; omega
    ·obtain rfl : u = n := by omega
     obtain rfl : u = PL := by omega
     have u1 : ¬ (u : Int) < (u : Int) := by omega
     have hrd := own_rd HU.out.swap
     have hnk := hrd.le
     have hkc := hrd.cap
     have hto := to_ex (P := Tryz.prog) 45 Tryz.underlying45 5 sizeRow b u k .i64 u (by omega)
     have HRT0 := Lib.hid (show Rd wr 5 b u k (rowsV (Fd.take u)) by have := hrd.to u (by omega); rwa [rowsV_take] at this)
     obtain ⟨sa, hsa, hRS⟩ : ∃ sa, (∀ W : World, (Instr.slice 45 (.slice b u k) (some (.int .i64 (u : Int))) none none).run Tryz.prog W = .ok (.slice sa 0 (k - u)) W) ∧ ∀ W : World, Rd W 5 b u k (rowsV Fd) → Rd W 5 sa 0 (k - u) ((rowsV Fd).drop (u * 5)) :=
      ⟨_, fun W => by have := run_slice_from 45 Tryz.underlying45 5 Tryz.sizeOf98 b u k .i64 (u : Int) u (by omega) (by omega) W; rwa [Nat.sub_self] at this, fun _ h => by have := h.from u (by omega); rwa [Nat.sub_self] at this⟩
     have HRF : Hid (∀ W : World, Rd W 5 b u k (rowsV Fd) → Rd W 5 sa 0 (k - u) (rowsV (Fd.drop u))) := Lib.hid (fun W h => by have := hRS W h; rwa [rowsV_drop] at this)
     clear hrd hRS
     go_wp2
     go_quiet (fail)
     have HW2 := Lib.hid (HU.out.later (below_drewN _ nq))
     have HRT := Lib.hid (HRT0.out.later (below_drewN _ nq))
     go_wp2_with (first
      | (at_builtin; refine wpList_app_own (B := W.heap.size) (w0 := W) rfl (.tmp 76) (.tmp 79) 45 rfl 98 i0 _ 5 48 Tryz.underlying45 hi hz0 hz1 hz2 rfl (by decide) none 0 0 [] rfl (own_nilSl HW2.out 5) b u k (rowsV (Fd.take u)) rfl HRT.out u (rowsV (Fd.take u)) (Nat.zero_add u) (List.nil_append _) (by unfold maxLen; omega) (by omega) ?_; intro a1 c1 w1 ho; have H1 := Lib.hid ho; obtain ⟨y0, y1, y2, y3, y4⟩ := HP5.out _ _ ho (by simp); clear ho)
      | (at_builtin; refine wpList_app_own (B := W.heap.size) (w0 := W) rfl (.tmp 81) (.tmp 83) 45 rfl 98 i0 _ 5 48 Tryz.underlying45 hi hz0 hz1 hz2 rfl (by decide) a1 u c1 (rowsV (Fd.take u)) rfl (H1.out.later (al1 w1 _)) (some ⟨w1.heap.size, 0, none⟩) 1 1 (rowsV [(pk, ps)]) rfl (by rw [HRow.out]; exact Rd.made w1 [.string ⟨pk.toArray⟩, .int .i64 q0, .int .i64 q1, .int .i64 q2, .int .i64 q3] 98 5 1 rfl (by decide) (fun x hx => by simp at hx; rcases hx with rfl | rfl | rfl | rfl | rfl <;> rfl) (0, 0)) (u + 1) (rowsV (Fd.take u ++ [(pk, ps)])) rfl (rowsV_append _ _).symm (by unfold maxLen; omega) (by omega) ?_; intro a2 c2 w2 ho; have H2 := Lib.hid ho; have HRd2 := Lib.hid (HRF.out _ (own_rd ho.third)); clear ho)
      | (at_builtin; refine wpList_app_own (B := W.heap.size) (w0 := W) rfl (.tmp 85) (.tmp 88) 45 rfl 98 i0 _ 5 48 Tryz.underlying45 hi hz0 hz1 hz2 rfl (by decide) a2 (u + 1) c2 (rowsV (Fd.take u ++ [(pk, ps)])) rfl H2.out sa 0 (k - u) (rowsV (Fd.drop u)) rfl HRd2.out (u + 1) (rowsV ((Fd.take u ++ [(pk, ps)]) ++ Fd.drop u)) (by omega) (rowsV_append _ _).symm (by unfold maxLen; omega) (by omega) ?_; intro a3 c3 w3 ho; have H3 := Lib.hid ho; clear ho))
     go_roundw
     case rel =>
      refine ⟨j + 1, u + 1, c3, a3, by omega, by omega, by go_num, by simp, Lib.hid ⟨?_, ?_⟩⟩
      ·rw [HSc.out, addF_len, HFn.out]
      ·have h4 := H3.out.swap.drop.swap.drop
       rw [HSc.out]
       unfold addF
       rw [HPL.out]
       simpa using h4
     case measure => simp [intOf]; omega
  ·obtain rfl : j = N := by omega
   have j1 : ¬ (j : Int) < (j : Int) := by omega
   rw [show L.take j = L from List.take_of_length_le (by rw [HN.out]; exact Nat.le_refl _)] at HJ
   obtain ⟨Fd, hFd⟩ : ∃ Fd, findF c lo hi0 L = Fd := ⟨_, rfl⟩
   rw [hFd] at HJ HTT
   have HK : Hid (Own W.heap.size W [SlR 5 b n k (rowsV Fd)] wr) := Lib.hid HJ.out.2
   have HFn : Hid (Fd.length = n) := Lib.hid HJ.out.1
   have HM : Hid (TT.length ≤ m ∧ TT.length ≤ n ∧ (TT.length < m → TT.length = n) ∧ ∀ u q, Fd[u]? = some q → u < m → TT[u]? = some q.1) := Lib.hid (by
    rw [← HTT.out]
    refine ⟨by rw [List.length_take]; omega, by rw [List.length_take, List.length_map, HFn.out]; omega, ?_, fun u q hq hu => ?_⟩
    ·rw [List.length_take, List.length_map, HFn.out]; omega
    ·rw [List.getElem?_take, if_pos hu, List.getElem?_map, hq]; rfl)
   rw [HMl.out] at HM
   obtain ⟨hm1, hm2, hm3, _⟩ := HM.out
   clear HJ hTd hFd y0 y1
   go_wp2
   go_loopw [14, 15] (fun f i wr => ∃ (u k' : Nat) (b' : Option Addr), u ≤ M ∧ i = .int .i64 u ∧ f = .slice b' u k' ∧ Hid (Own W.heap.size W [SlR 1 b' u k' (textsV (TT.take u)), SlR 5 b n k (rowsV Fd)] wr)) (fun _ i _ => M - (intOf i).toNat)
   case atStart => exact ⟨0, 0, none, by omega, rfl, rfl, Lib.hid (own_nilSl HK.out 1)⟩
   case round =>
    obtain ⟨u, k', b', hu, rfl, rfl, HU⟩ := hrel
    have u0 : (0 : Int) ≤ (u : Int) := by omega
    by_cases hum : u < M
    ·have u1 : (u : Int) < (n : Int) := by omega
     have u2 : (u : Int) < (m : Int) := by omega
     obtain ⟨⟨gk, gs⟩, hg⟩ : ∃ x, Fd[u]? = some x := ⟨_, List.getElem?_eq_getElem (by rw [HFn.out]; omega)⟩
     obtain ⟨fb, fo, rfl, f0, _⟩ := found_at (own_rd HU.out.swap) hg hc
     have hT := HM.out.2.2.2 u _ hg (by omega)
     have HTk : Hid (textsV (TT.take u) ++ [.string ⟨gk.toArray⟩] = textsV (TT.take (u + 1))) := Lib.hid (by
      rw [List.take_add_one, hT]
      unfold textsV
      rw [List.map_append]
      rfl)
     clear hg hT
     go_wp2_with (at_builtin; refine wpList_app_own (B := W.heap.size) (w0 := W) rfl (.tmp 101) (.tmp 107) 53 rfl 9 iS _ 1 16 Tryz.underlying53 hiS hs0 hs1 hs2 rfl (by decide) b' u k' (textsV (TT.take u)) rfl (HU.out.later (al1 wr _)) (some ⟨wr.heap.size, 0, none⟩) 1 1 [.string ⟨gk.toArray⟩] rfl (Rd.made wr [.string ⟨gk.toArray⟩] 9 1 1 rfl (by decide) (fun x hx => by simp at hx; subst hx; rfl) (0, 0)) (u + 1) (textsV (TT.take (u + 1))) rfl HTk.out (by unfold maxLen; omega) (by omega) ?_; intro a1 c1 w1 ho; have H1 := Lib.hid ho; clear ho)
     go_roundw
     case rel => exact ⟨u + 1, c1, a1, by omega, by go_num, by simp, H1⟩
     case measure => simp [intOf]; omega
    ·obtain rfl : u = M := by omega
     have HFin : Hid (Own W.heap.size W [SlR 1 b' u k' (textsV TT), SlR 5 b n k (rowsV Fd)] wr) := Lib.hid (by have h := HU.out; rwa [List.take_of_length_le (by rw [HMl.out]; exact Nat.le_refl _)] at h)
     by_cases hun : u < n
     ·have u1 : (u : Int) < (n : Int) := by omega
      have u2 : ¬ (u : Int) < (m : Int) := by omega
      go_wp2
      go_ret
      exact ⟨b', k', rfl, HEnd.out _ _ HFin.out.swap.drop⟩
     ·have u1 : ¬ (u : Int) < (n : Int) := by omega
      go_wp2
      go_ret
      exact ⟨b', k', rfl, HEnd.out _ _ HFin.out.swap.drop⟩
end
end Tb
end Go.Proofs.YtecnijnmgdfdhaaGreat
