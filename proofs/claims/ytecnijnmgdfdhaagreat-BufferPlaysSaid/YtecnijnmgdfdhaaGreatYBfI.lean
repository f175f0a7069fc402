/- Joined: Bf30, Bf31, Bf32. -/
import Derived.Test.YtecnijnmgdfdhaaGreatYBfG
import Derived.Test.YtecnijnmgdfdhaaGreatYLawC
import Derived.Test.YtecnijnmgdfdhaaGreatYSep
namespace Go.Proofs.YtecnijnmgdfdhaaGreat
namespace Bf
open Go.RowKit Tr Tb
open Ky (less)
theorem infoWt : (Tryz.prog.info? 75).map (fun i => (i.zero, i.size, i.bytes)) = some (some (.agg #[.string ⟨#[]⟩, .int .i64 0, .int .i64 0, .int .i64 0, .int .i64 0, .bool false]), 6, 56) := by kernel_rfl
theorem wrsV_app (A C : List Pr) : wrsV (A ++ C) = wrsV A ++ wrsV C := by unfold wrsV; simp
theorem wrsV_len (A : List Pr) : (wrsV A).length = A.length * 6 := by
 induction A with
 | nil => rfl
 | cons p A ih =>
  show (wrV p ++ wrsV A).length = _
  rw [List.length_append, wrV_len, ih, List.length_cons]
  omega
theorem wrsV_take (A : List Pr) (P : Nat) (h : P ≤ A.length) : (wrsV A).take (P * 6) = wrsV (A.take P) := by
 have h1 : wrsV A = wrsV (A.take P) ++ wrsV (A.drop P) := by rw [← wrsV_app, List.take_append_drop]
 rw [h1, List.take_left' (by rw [wrsV_len, List.length_take, Nat.min_eq_left h])]
theorem wrsV_drop (A : List Pr) (P : Nat) (h : P ≤ A.length) : (wrsV A).drop (P * 6) = wrsV (A.drop P) := by
 have h1 : wrsV A = wrsV (A.take P) ++ wrsV (A.drop P) := by rw [← wrsV_app, List.take_append_drop]
 rw [h1, List.drop_left' (by rw [wrsV_len, List.length_take, Nat.min_eq_left h])]
def NoteR (s rt : Nat) (W : List Pr) : Rs where
 R w F := ∃ a c, SepF [CellsR s [ptrV rt, .slice a W.length c], SlR 6 a W.length c (wrsV W)] w F
 fr := fun ⟨a, c, h⟩ hf ha => ⟨a, c, h.fr hf ha⟩
 lies := fun ⟨_, _, h⟩ => h.lies
section
variable {B : Nat} {w0 w V : World} {X Y : List Rs} {s rt n c : Nat} {W : List Pr} {a : Option Addr}
theorem own_noteOpen (h : Own B w0 (NoteR s rt W :: X) w) : ∃ a c, Own B w0 (CellsR s [ptrV rt, .slice a W.length c] :: SlR 6 a W.length c (wrsV W) :: X) w := by
 obtain ⟨hB, hb0, F, ⟨F1, F2, e, ha, ⟨a, c, hs⟩, h3⟩, h2⟩ := h
 exact ⟨a, c, hB, hb0, F, SepF.join e ha hs h3, h2⟩
theorem own_noteClose (h : Own B w0 (CellsR s [ptrV rt, .slice a W.length c] :: SlR 6 a W.length c (wrsV W) :: X) w) : Own B w0 (NoteR s rt W :: X) w := by
 obtain ⟨hB, hb0, F, hs, h2⟩ := h
 obtain ⟨G1, G2, e, ha, k1, k2⟩ := SepF.append (L := [CellsR s [ptrV rt, .slice a W.length c], SlR 6 a W.length c (wrsV W)]) (X := X) hs
 exact ⟨hB, hb0, F, ⟨G1, G2, e, ha, ⟨a, c, k1⟩, k2⟩, h2⟩
set_option maxHeartbeats 16000000 in
set_option maxRecDepth 100000 in
theorem own_note (k v : Str) (r0 r1 r2 r3 : Int) (hb : Bool) (hwr : wrV (k, v) = [.string ⟨k.toArray⟩, .int .i64 r0, .int .i64 r1, .int .i64 r2, .int .i64 r3, .bool hb]) (hW : W.length ≤ 100000) (h : Own B w0 (NoteR s rt W :: X) w) :
  Calls Tryz.prog 74 #[ptrV s, .agg #[.string ⟨k.toArray⟩, .int .i64 r0, .int .i64 r1, .int .i64 r2, .int .i64 r3, .bool hb]] w fun e V => e = .returned (.tuple #[]) ∧ Own B w0 (NoteR s rt (ins (k, v) W) :: X) V := by
 obtain ⟨a, c, hO⟩ := own_noteOpen h
 obtain ⟨n, hn⟩ : ∃ n, W.length = n := ⟨_, rfl⟩
 rw [hn] at hO hW
 have HLn := Lib.hid hn
 have HOne : Hid (wrsV [(k, v)] = [.string ⟨k.toArray⟩, .int .i64 r0, .int .i64 r1, .int .i64 r2, .int .i64 r3, .bool hb]) := Lib.hid (by rw [← hwr]; unfold wrsV; simp)
 have hZ := own_cells hO #[.string ⟨k.toArray⟩, .int .i64 r0, .int .i64 r1, .int .i64 r2, .int .i64 r3, .bool hb] 75
 obtain ⟨W1, hW1⟩ : ∃ W1, w.alloc (.cells #[.string ⟨k.toArray⟩, .int .i64 r0, .int .i64 r1, .int .i64 r2, .int .i64 r3, .bool hb] 75) = W1 := ⟨_, rfl⟩
 rw [hW1] at hZ
 have HZ := Lib.hid hZ
 obtain ⟨i0, hi, hz0, hz1, hz2⟩ := info_parts infoWt
 have hI0 := ins_place (k, v) W
 obtain ⟨P, hP⟩ : ∃ P, pl k W = P := ⟨_, rfl⟩
 have hle : P ≤ n := by rw [← hP, ← hn]; exact pl_le k W
 rw [show (k, v).1 = k from rfl, hP] at hI0
 have HLt : Hid (∀ u p, u < P → W[u]? = some p → less p.1 k = true) := Lib.hid (fun u p hu hp => pl_lt (by rw [hP]; exact hu) hp)
 have HAt : Hid (∀ p, W[P]? = some p → less p.1 k = false) := Lib.hid (fun p hp => pl_at (by rw [hP]; exact hp))
 have HNo : Hid (get k W = none → ∀ p, W[P]? = some p → (p.1 == k) = false) := Lib.hid (fun hg p hp => by
  cases he : p.1 == k with
  | false => rfl
  | true =>
   exfalso
   have e : p.1 = k := by simpa using he
   have h1 : pl k W = P := hP
   have h2 := ins_place (k, v) W
   have h3 := ins_len (k, v) W
   rw [show (k, v).1 = k from rfl, hg] at h3
   have hpl : ∀ (L : List Pr) (p : Pr), L[pl k L]? = some p → p.1 = k → get k L ≠ none := by
    intro L
    induction L with
    | nil => intro p hp; simp at hp
    | cons q L ih =>
     intro p hp e
     unfold pl at hp
     unfold Tr.get
     by_cases hl : less q.1 k = true
     ·rw [if_pos hl] at hp ⊢
      exact ih p (by simpa using hp) e
     ·rw [if_neg hl] at hp ⊢
      simp at hp
      rw [hp, if_pos e]
      simp
   exact hpl W p (by rw [h1]; exact hp) e hg)
 have HYes : Hid (∀ u, get k W = some u → W[P]? = some (k, u)) := Lib.hid (fun u hg => by rw [← hP]; exact Tb.get_at hg)
 have hto := to_ex (P := Tryz.prog) 48 Tryz.underlying48 6 Tryz.sizeOf75 a n c .i64 P (by have := (own_rdM hO (size := 6) (a := a) (n := n) (c := c) (xs := wrsV W) (by simp)).le; omega)
 have HC : Hid (∀ (Y : List Rs) V, Own B w0 Y V → CellsR w.heap.size [.string ⟨k.toArray⟩, .int .i64 r0, .int .i64 r1, .int .i64 r2, .int .i64 r3, .bool hb] ∈ Y → CellsR s [ptrV rt, .slice a n c] ∈ Y → V.cell? ⟨w.heap.size, 0, none⟩ = some (.string ⟨k.toArray⟩) ∧ V.cell? ⟨w.heap.size, 1, none⟩ = some (.int .i64 r0) ∧ V.cell? ⟨w.heap.size, 2, none⟩ = some (.int .i64 r1) ∧ V.cell? ⟨w.heap.size, 3, none⟩ = some (.int .i64 r2) ∧ V.cell? ⟨w.heap.size, 4, none⟩ = some (.int .i64 r3) ∧ V.cell? ⟨w.heap.size, 5, none⟩ = some (.bool hb) ∧ V.cell? ⟨s, 1, none⟩ = some (.slice a n c) ∧ V.frozen? ⟨s, 1, none⟩ = false) := Lib.hid (fun Y V h hm hm2 =>
  ⟨(own_cellM h hm (i := 0) rfl).1, (own_cellM h hm (i := 1) rfl).1, (own_cellM h hm (i := 2) rfl).1, (own_cellM h hm (i := 3) rfl).1, (own_cellM h hm (i := 4) rfl).1, (own_cellM h hm (i := 5) rfl).1, own_cellM h hm2 (i := 1) rfl⟩)
 have HI0 := Lib.hid hI0
 clear h hO hZ hn hwr hI0 hP
 go_enter Tryz.func74, Tryz.ntmps74
 go_wp2
 try simp only [hW1]
 clear hW1
 go_loopw [4] (fun i wr => ∃ u : Nat, u ≤ P ∧ i = .int .i64 u ∧ Hid (Own B w0 (CellsR w.heap.size [.string ⟨k.toArray⟩, .int .i64 r0, .int .i64 r1, .int .i64 r2, .int .i64 r3, .bool hb] :: CellsR s [ptrV rt, .slice a n c] :: SlR 6 a n c (wrsV W) :: X) wr)) (fun i _ => n - (intOf i).toNat)
 case atStart => exact ⟨0, by omega, rfl, HZ⟩
 case round =>
  obtain ⟨u, hu, rfl, HU⟩ := hrel
  have u0 : (0 : Int) ≤ (u : Int) := by omega
  have hrd := own_rdM HU.out (size := 6) (a := a) (n := n) (c := c) (xs := wrsV W) (by simp)
  have hrl := hrd.le
  have hrc := hrd.cap
  obtain ⟨x0, x1, x2, x3, x4, x5, x6, x7⟩ := HC.out _ _ HU.out (by simp) (by simp)
  by_cases hup : u < P
  ·have hun : u < n := by omega
   have u1 : (u : Int) < (n : Int) := by omega
   have d1 : decide ((u : Int) < (n : Int)) = true := by simpa using u1
   obtain ⟨⟨gk, gs⟩, hg⟩ : ∃ x, W[u]? = some x := ⟨_, List.getElem?_eq_getElem (by rw [HLn.out]; exact hun)⟩
   obtain ⟨b, o, rfl, hz⟩ := wr_at hrd hg
   have f0 := hz 0 (.string ⟨gk.toArray⟩) (by omega) (by cases gs <;> rfl)
   rw [Nat.add_zero] at f0
   have hls := HLt.out u _ hup hg
   have hl := Ks.str_lss 9 gk k
   simp only at hls
   rw [show Op.bytesLess gk k = true from hls] at hl
   clear hz hg hrd hls
   go_wp2
   go_quiet (fail)
   go_wp2
   go_roundw
   case rel => exact ⟨u + 1, by omega, by go_num, Lib.hid (HU.out.later (below_drewN wr nq))⟩
   case measure => simp [intOf]; omega
  ·obtain rfl : P = u := by omega
   have HRd : Hid (Rd wr 6 a P c (wrsV (W.take P)) ∧ True) := Lib.hid ⟨by have := hrd.to P (by omega); rwa [wrsV_take _ _ (by rw [HLn.out]; exact hle)] at this, trivial⟩
   by_cases hPn : P < n
   ·have u1 : (P : Int) < (n : Int) := by omega
    have d1 : decide ((P : Int) < (n : Int)) = true := by simpa using u1
    obtain ⟨⟨gk, gs⟩, hg⟩ : ∃ x, W[P]? = some x := ⟨_, List.getElem?_eq_getElem (by rw [HLn.out]; exact hPn)⟩
    obtain ⟨b, o, ea, hz⟩ := wr_at hrd hg
    have f0 := hz 0 (.string ⟨gk.toArray⟩) (by omega) (by cases gs <;> rfl)
    rw [Nat.add_zero] at f0
    have hls := HAt.out _ hg
    have hl := Ks.str_lss 9 gk k
    simp only at hls
    rw [show Op.bytesLess gk k = false from hls] at hl
    have he := Ks.str_eql 9 gk k
    have HKey : Hid (∀ (Y : List Rs) V, Own B w0 Y V → SlR 6 a n c (wrsV W) ∈ Y → V.cell? ⟨b, o + P * 6, none⟩ = some (.string ⟨gk.toArray⟩)) := Lib.hid (fun Y V h hm => by
     obtain ⟨b', o', e', hz'⟩ := wr_at (own_rdM h hm) hg
     rw [ea] at e'
     cases e'
     have := hz' 0 (.string ⟨gk.toArray⟩) (by omega) (by cases gs <;> rfl)
     rwa [Nat.add_zero] at this)
    have HDr : Hid (∀ PP, PP ≤ n → ∀ (Y : List Rs) V, Own B w0 Y V → SlR 6 a n c (wrsV W) ∈ Y → ∃ sa, (∀ W2 : World, (Instr.slice 48 (.slice a n c) (some (.int .i64 (PP : Int))) none none).run Tryz.prog W2 = .ok (.slice sa (n - PP) (c - PP)) W2) ∧ Rd V 6 sa (n - PP) (c - PP) (wrsV (W.drop PP))) := Lib.hid (fun PP hPP Y V h hm => ⟨_, fun W2 => run_slice_from 48 Tryz.underlying48 6 Tryz.sizeOf75 a n c .i64 (PP : Int) PP rfl (by have := (own_rdM h hm).le; omega) W2, by have := (own_rdM h hm).from PP hPP; rwa [wrsV_drop _ _ (by rw [HLn.out]; exact hPP)] at this⟩)
    clear hz hrd hls
    subst ea
    cases hgk : get k W with
    | none =>
     have hne := HNo.out hgk _ hg
     simp only at hne
     rw [hne] at he
     have HI : Hid (ins (k, v) W = (W.take P ++ [(k, v)]) ++ W.drop P) := Lib.hid (by rw [HI0.out, hgk]; simp)
     clear hg hgk hne
     go_wp2
     go_quiet (fail)
     have HV := Lib.hid (HU.out.later (below_drewN wr nq))
     have HRd := Lib.hid (And.intro (HRd.out.1.later (below_drewN wr nq)) True.intro)
     obtain ⟨wv, hwv⟩ : ∃ wv, wr.drewN nq = wv := ⟨_, rfl⟩
     rw [hwv] at HV HRd ⊢
     clear hwv x0 x1 x2 x3 x4 x5 x6 x7 f0
     obtain ⟨x0, x1, x2, x3, x4, x5, x6, x7⟩ := HC.out _ _ HV.out (by simp) (by simp)
     go_wp2_with (first
      | (at_builtin; refine wpList_app_own (B := B) (w0 := w0) rfl (.tmp 28) (.tmp 34) 48 rfl 75 i0 _ 6 56 Tryz.underlying48 hi hz0 hz1 hz2 rfl (by decide) none (0) 0 ([]) rfl (own_nilSl HV.out 6) (some ⟨b, o, none⟩) (P) (c) (wrsV (W.take P)) rfl (HRd.out.1) (P) (wrsV (W.take P)) (Nat.zero_add P) (List.nil_append _) (by unfold maxLen; omega) (by omega) ?_; intro a1 c1 w1 ho; have H1 := Lib.hid ho; obtain ⟨y0, y1, y2, y3, y4, y5, y6, y7⟩ := HC.out _ _ ho (by simp) (by simp); clear ho)
      | (at_builtin; refine wpList_app_own (B := B) (w0 := w0) rfl (.tmp 36) (.tmp 38) 48 rfl 75 i0 _ 6 56 Tryz.underlying48 hi hz0 hz1 hz2 rfl (by decide) a1 (P) c1 (wrsV (W.take P)) rfl (H1.out.later (al1 w1 _)) (some ⟨w1.heap.size, 0, none⟩) (1) (1) (wrsV [(k, v)]) rfl (by rw [HOne.out]; exact Rd.made w1 [.string ⟨k.toArray⟩, .int .i64 r0, .int .i64 r1, .int .i64 r2, .int .i64 r3, .bool hb] 75 6 1 rfl (by decide) (fun x hx => by simp at hx; rcases hx with rfl | rfl | rfl | rfl | rfl | rfl <;> rfl) (0, 0)) (P + 1) (wrsV (W.take P ++ [(k, v)])) (rfl) ((wrsV_app _ _).symm) (by unfold maxLen; omega) (by omega) ?_; intro a2 c2 w2 ho; have H2 := Lib.hid ho; obtain ⟨z0, z1, z2, z3, z4, z5, z6, z7⟩ := HC.out _ _ ho (by simp) (by simp); have f2 := HKey.out _ _ ho (by simp); clear ho))
     go_quiet (fail)
     have H2b := Lib.hid (H2.out.later (below_drewN w2 nq))
     obtain ⟨wv2, hwv2⟩ : ∃ wv2, w2.drewN nq = wv2 := ⟨_, rfl⟩
     rw [hwv2] at H2b ⊢
     clear hwv2 z0 z1 z2 z3 z4 z5 z6 z7 y0 y1 y2 y3 y4 y5 y6 y7 f2
     obtain ⟨z0, z1, z2, z3, z4, z5, z6, z7⟩ := HC.out _ _ H2b.out (by simp) (by simp)
     obtain ⟨sa, hsa, hrd2⟩ := HDr.out P (by omega) _ _ H2b.out (by simp)
     have HRd2 := Lib.hid hrd2
     clear hrd2
     go_wp2_with (at_builtin; refine wpList_app_own (B := B) (w0 := w0) rfl (.tmp 63) (.tmp 69) 48 rfl 75 i0 _ 6 56 Tryz.underlying48 hi hz0 hz1 hz2 rfl (by decide) a2 (P + 1) c2 (wrsV (W.take P ++ [(k, v)])) rfl (H2b.out) (sa) (n - P) (c - P) (wrsV (W.drop P)) rfl (HRd2.out) (P + 1 + (n - P)) (wrsV ((W.take P ++ [(k, v)]) ++ W.drop P)) (rfl) ((wrsV_app _ _).symm) (by unfold maxLen; omega) (by omega) ?_; intro a3 c3 w3 ho; have H3 := Lib.hid ho; obtain ⟨_, _, _, _, _, _, _, q7⟩ := HC.out _ _ ho (by simp) (by simp); have q6 := (HC.out _ _ ho (by simp) (by simp)).2.2.2.2.2.2.1; clear ho)
     go_end0
     refine ⟨rfl, ?_⟩
     have h4 := own_cellSet (H3.out.swap.drop.swap) (i := 1) (by simp) (.slice a3 (P + 1 + (n - P)) c3)
     have hl : (ins (k, v) W).length = P + 1 + (n - P) := by rw [HI.out, List.length_append, List.length_append, List.length_take, List.length_drop, HLn.out]; simp only [List.length_cons, List.length_nil]; omega
     rw [HI.out] at hl ⊢
     refine own_noteClose (a := a3) (c := c3) ?_
     rw [hl]
     exact h4.third.drop
    | some old =>
     have hy := HYes.out _ hgk
     rw [hg] at hy
     obtain ⟨rfl, rfl⟩ := Prod.mk.inj (Option.some.inj hy)
     rw [show (gk == gk) = true by simp] at he
     have HI : Hid (ins (gk, v) W = (W.take P ++ [(gk, v)]) ++ W.drop (P + 1)) := Lib.hid (by rw [HI0.out, hgk]; simp)
     clear hg hgk hy
     go_wp2
     go_quiet (fail)
     have HV := Lib.hid (HU.out.later (below_drewN wr nq))
     have HRd := Lib.hid (And.intro (HRd.out.1.later (below_drewN wr nq)) True.intro)
     obtain ⟨wv, hwv⟩ : ∃ wv, wr.drewN nq = wv := ⟨_, rfl⟩
     rw [hwv] at HV HRd ⊢
     clear hwv x0 x1 x2 x3 x4 x5 x6 x7 f0
     obtain ⟨x0, x1, x2, x3, x4, x5, x6, x7⟩ := HC.out _ _ HV.out (by simp) (by simp)
     go_wp2_with (first
      | (at_builtin; refine wpList_app_own (B := B) (w0 := w0) rfl (.tmp 28) (.tmp 34) 48 rfl 75 i0 _ 6 56 Tryz.underlying48 hi hz0 hz1 hz2 rfl (by decide) none (0) 0 ([]) rfl (own_nilSl HV.out 6) (some ⟨b, o, none⟩) (P) (c) (wrsV (W.take P)) rfl (HRd.out.1) (P) (wrsV (W.take P)) (Nat.zero_add P) (List.nil_append _) (by unfold maxLen; omega) (by omega) ?_; intro a1 c1 w1 ho; have H1 := Lib.hid ho; obtain ⟨y0, y1, y2, y3, y4, y5, y6, y7⟩ := HC.out _ _ ho (by simp) (by simp); clear ho)
      | (at_builtin; refine wpList_app_own (B := B) (w0 := w0) rfl (.tmp 36) (.tmp 38) 48 rfl 75 i0 _ 6 56 Tryz.underlying48 hi hz0 hz1 hz2 rfl (by decide) a1 (P) c1 (wrsV (W.take P)) rfl (H1.out.later (al1 w1 _)) (some ⟨w1.heap.size, 0, none⟩) (1) (1) (wrsV [(gk, v)]) rfl (by rw [HOne.out]; exact Rd.made w1 [.string ⟨gk.toArray⟩, .int .i64 r0, .int .i64 r1, .int .i64 r2, .int .i64 r3, .bool hb] 75 6 1 rfl (by decide) (fun x hx => by simp at hx; rcases hx with rfl | rfl | rfl | rfl | rfl | rfl <;> rfl) (0, 0)) (P + 1) (wrsV (W.take P ++ [(gk, v)])) (rfl) ((wrsV_app _ _).symm) (by unfold maxLen; omega) (by omega) ?_; intro a2 c2 w2 ho; have H2 := Lib.hid ho; obtain ⟨z0, z1, z2, z3, z4, z5, z6, z7⟩ := HC.out _ _ ho (by simp) (by simp); have f2 := HKey.out _ _ ho (by simp); clear ho))
     go_quiet (fail)
     have H2b := Lib.hid (H2.out.later (below_drewN w2 nq))
     obtain ⟨wv2, hwv2⟩ : ∃ wv2, w2.drewN nq = wv2 := ⟨_, rfl⟩
     rw [hwv2] at H2b ⊢
     clear hwv2 z0 z1 z2 z3 z4 z5 z6 z7 y0 y1 y2 y3 y4 y5 y6 y7 f2
     obtain ⟨z0, z1, z2, z3, z4, z5, z6, z7⟩ := HC.out _ _ H2b.out (by simp) (by simp)
     obtain ⟨sa, hsa, hrd2⟩ := HDr.out (P + 1) (by omega) _ _ H2b.out (by simp)
     have HRd2 := Lib.hid hrd2
     clear hrd2
     rw [show ((P + 1 : Nat) : Int) = (P : Int) + 1 by omega] at hsa
     have hPb : (P : Int) ≤ 100000 := by omega
     go_wp2_with (at_builtin; refine wpList_app_own (B := B) (w0 := w0) rfl (.tmp 63) (.tmp 69) 48 rfl 75 i0 _ 6 56 Tryz.underlying48 hi hz0 hz1 hz2 rfl (by decide) a2 (P + 1) c2 (wrsV (W.take P ++ [(gk, v)])) rfl (H2b.out) (sa) (n - (P + 1)) (c - (P + 1)) (wrsV (W.drop (P + 1))) rfl (HRd2.out) (P + 1 + (n - (P + 1))) (wrsV ((W.take P ++ [(gk, v)]) ++ W.drop (P + 1))) (rfl) ((wrsV_app _ _).symm) (by unfold maxLen; omega) (by omega) ?_; intro a3 c3 w3 ho; have H3 := Lib.hid ho; obtain ⟨_, _, _, _, _, _, _, q7⟩ := HC.out _ _ ho (by simp) (by simp); have q6 := (HC.out _ _ ho (by simp) (by simp)).2.2.2.2.2.2.1; clear ho)
     go_end0
     refine ⟨rfl, ?_⟩
     have h4 := own_cellSet (H3.out.swap.drop.swap) (i := 1) (by simp) (.slice a3 (P + 1 + (n - (P + 1))) c3)
     have hl : (ins (gk, v) W).length = P + 1 + (n - (P + 1)) := by rw [HI.out, List.length_append, List.length_append, List.length_take, List.length_drop, HLn.out]; simp only [List.length_cons, List.length_nil]; omega
     rw [HI.out] at hl ⊢
     refine own_noteClose (a := a3) (c := c3) ?_
     rw [hl]
     exact h4.third.drop
   ·have u1 : ¬ (P : Int) < (n : Int) := by omega
    have d1 : decide ((P : Int) < (n : Int)) = false := by simpa using u1
    have hgn : get k W = none := by
     cases hgk : get k W with
     | none => rfl
     | some old =>
      have := (List.getElem?_eq_some_iff.1 (HYes.out _ hgk)).1
      rw [HLn.out] at this
      omega
    have HI : Hid (ins (k, v) W = (W.take P ++ [(k, v)]) ++ W.drop P) := Lib.hid (by rw [HI0.out, hgn]; simp)
    have HDr : Hid (∀ PP, PP ≤ n → ∀ (Y : List Rs) V, Own B w0 Y V → SlR 6 a n c (wrsV W) ∈ Y → ∃ sa, (∀ W2 : World, (Instr.slice 48 (.slice a n c) (some (.int .i64 (PP : Int))) none none).run Tryz.prog W2 = .ok (.slice sa (n - PP) (c - PP)) W2) ∧ Rd V 6 sa (n - PP) (c - PP) (wrsV (W.drop PP))) := Lib.hid (fun PP hPP Y V h hm => ⟨_, fun W2 => run_slice_from 48 Tryz.underlying48 6 Tryz.sizeOf75 a n c .i64 (PP : Int) PP rfl (by have := (own_rdM h hm).le; omega) W2, by have := (own_rdM h hm).from PP hPP; rwa [wrsV_drop _ _ (by rw [HLn.out]; exact hPP)] at this⟩)
    clear hrd hgn
    go_wp2
    go_quiet (fail)
    have HV := Lib.hid (HU.out.later (below_drewN wr nq))
    have HRd := Lib.hid (And.intro (HRd.out.1.later (below_drewN wr nq)) True.intro)
    obtain ⟨wv, hwv⟩ : ∃ wv, wr.drewN nq = wv := ⟨_, rfl⟩
    rw [hwv] at HV HRd ⊢
    clear hwv x0 x1 x2 x3 x4 x5 x6 x7
    obtain ⟨x0, x1, x2, x3, x4, x5, x6, x7⟩ := HC.out _ _ HV.out (by simp) (by simp)
    go_wp2_with (first
     | (at_builtin; refine wpList_app_own (B := B) (w0 := w0) rfl (.tmp 28) (.tmp 34) 48 rfl 75 i0 _ 6 56 Tryz.underlying48 hi hz0 hz1 hz2 rfl (by decide) none (0) 0 ([]) rfl (own_nilSl HV.out 6) (a) (P) (c) (wrsV (W.take P)) rfl (HRd.out.1) (P) (wrsV (W.take P)) (Nat.zero_add P) (List.nil_append _) (by unfold maxLen; omega) (by omega) ?_; intro a1 c1 w1 ho; have H1 := Lib.hid ho; obtain ⟨y0, y1, y2, y3, y4, y5, y6, y7⟩ := HC.out _ _ ho (by simp) (by simp); clear ho)
     | (at_builtin; refine wpList_app_own (B := B) (w0 := w0) rfl (.tmp 36) (.tmp 38) 48 rfl 75 i0 _ 6 56 Tryz.underlying48 hi hz0 hz1 hz2 rfl (by decide) a1 (P) c1 (wrsV (W.take P)) rfl (H1.out.later (al1 w1 _)) (some ⟨w1.heap.size, 0, none⟩) (1) (1) (wrsV [(k, v)]) rfl (by rw [HOne.out]; exact Rd.made w1 [.string ⟨k.toArray⟩, .int .i64 r0, .int .i64 r1, .int .i64 r2, .int .i64 r3, .bool hb] 75 6 1 rfl (by decide) (fun x hx => by simp at hx; rcases hx with rfl | rfl | rfl | rfl | rfl | rfl <;> rfl) (0, 0)) (P + 1) (wrsV (W.take P ++ [(k, v)])) (rfl) ((wrsV_app _ _).symm) (by unfold maxLen; omega) (by omega) ?_; intro a2 c2 w2 ho; have H2 := Lib.hid ho; obtain ⟨z0, z1, z2, z3, z4, z5, z6, z7⟩ := HC.out _ _ ho (by simp) (by simp); clear ho))
    go_quiet (fail)
    have H2b := Lib.hid (H2.out.later (below_drewN w2 nq))
    obtain ⟨wv2, hwv2⟩ : ∃ wv2, w2.drewN nq = wv2 := ⟨_, rfl⟩
    rw [hwv2] at H2b ⊢
    clear hwv2 z0 z1 z2 z3 z4 z5 z6 z7 y0 y1 y2 y3 y4 y5 y6 y7
    obtain ⟨z0, z1, z2, z3, z4, z5, z6, z7⟩ := HC.out _ _ H2b.out (by simp) (by simp)
    obtain ⟨sa, hsa, hrd2⟩ := HDr.out P (by omega) _ _ H2b.out (by simp)
    have HRd2 := Lib.hid hrd2
    clear hrd2
    go_wp2_with (at_builtin; refine wpList_app_own (B := B) (w0 := w0) rfl (.tmp 63) (.tmp 69) 48 rfl 75 i0 _ 6 56 Tryz.underlying48 hi hz0 hz1 hz2 rfl (by decide) a2 (P + 1) c2 (wrsV (W.take P ++ [(k, v)])) rfl (H2b.out) (sa) (n - P) (c - P) (wrsV (W.drop P)) rfl (HRd2.out) (P + 1 + (n - P)) (wrsV ((W.take P ++ [(k, v)]) ++ W.drop P)) (rfl) ((wrsV_app _ _).symm) (by unfold maxLen; omega) (by omega) ?_; intro a3 c3 w3 ho; have H3 := Lib.hid ho; obtain ⟨_, _, _, _, _, _, _, q7⟩ := HC.out _ _ ho (by simp) (by simp); have q6 := (HC.out _ _ ho (by simp) (by simp)).2.2.2.2.2.2.1; clear ho)
    go_end0
    refine ⟨rfl, ?_⟩
    have h4 := own_cellSet (H3.out.swap.drop.swap) (i := 1) (by simp) (.slice a3 (P + 1 + (n - P)) c3)
    have hl : (ins (k, v) W).length = P + 1 + (n - P) := by rw [HI.out, List.length_append, List.length_append, List.length_take, List.length_drop, HLn.out]; simp only [List.length_cons, List.length_nil]; omega
    rw [HI.out] at hl ⊢
    refine own_noteClose (a := a3) (c := c3) ?_
    rw [hl]
    exact h4.third.drop
end
end Bf
end Go.Proofs.YtecnijnmgdfdhaaGreat

namespace Go.Proofs.YtecnijnmgdfdhaaGreat
namespace Bf
open Go.RowKit Tr Tb
open Ky (less)
def noteP (k : Str) (q : R4) (most : Nat) (M W : List Pr) : List Pr := if putE k most M = 0 then ins (k, wrS (some q)) W else W
def noteD (k : Str) (M W : List Pr) : List Pr := if getE k M = 0 then ins (k, wrS none) W else W
section
variable {B : Nat} {w0 w V : World} {X Y : List Rs} {s rt r most : Nat} {W L M : List Pr}
theorem own_noteM (h : Own B w0 Y w) (hm : NoteR s rt W ∈ Y) : w.cell? ⟨s, 0, none⟩ = some (ptrV rt) ∧ ∃ a c, w.cell? ⟨s, 1, none⟩ = some (.slice a W.length c) ∧ Rd w 6 a W.length c (wrsV W) := by
 obtain ⟨_, _, F, hs, _⟩ := h
 obtain ⟨F1, a, c, h2⟩ := sepF_mem hs hm
 obtain ⟨G1, G2, e, ha, k1, k2⟩ := h2
 obtain ⟨k3, _⟩ := SepF.get k2
 exact ⟨(k1.2.2 0 _ rfl).1, a, c, (k1.2.2 1 _ rfl).1, k3.rd⟩
theorem wr_some {k : Str} {q : R4} (hq : In4 q) : wrV (k, wrS (some q)) = [.string ⟨k.toArray⟩, .int .i64 q.1, .int .i64 q.2.1, .int .i64 q.2.2.1, .int .i64 q.2.2.2, .bool true] := by
 show ([.string ⟨k.toArray⟩, .int .i64 (decT (encT q)).1, .int .i64 (decT (encT q)).2.1, .int .i64 (decT (encT q)).2.2.1, .int .i64 (decT (encT q)).2.2.2, .bool true] : List Value) = _
 rw [decT_encT hq]
theorem own_refNew (hn : L.length ≤ 100000) (h : Own B w0 (DocR r most L :: X) w) :
  Calls Tryz.prog 15 #[ptrV r] w fun e V => ∃ s rc, e = .returned (ptrV s) ∧ Own B w0 (NoteR s rc [] :: DocR rc most L :: DocR r most L :: X) V := by
 have HC := Lib.hid (own_docCopy hn h)
 clear h
 go_enter Tryz.func15, Tryz.ntmps15
 go_wp2_with (go_at_call 36; refine HC.out.mono ?_; rintro e V1 ⟨rc, rfl, h1⟩; have H1 := Lib.hid h1; clear h1)
 go_ret
 refine ⟨V1.heap.size, rc, rfl, ?_⟩
 exact own_noteClose (W := []) (a := none) (c := 0) ((own_nilSl (own_cells H1.out #[ptrV rc, .slice none 0 0] 50) 6).swap)
set_option maxHeartbeats 16000000 in
set_option maxRecDepth 100000 in
theorem own_refPut (k : Str) (q : R4) (hq : In4 q) (hW : W.length ≤ 100000) (hM : M.length ≤ 100000) (h : Own B w0 (NoteR s rt W :: DocR rt most M :: X) w) :
  Calls Tryz.prog 46 #[ptrV s, .string ⟨k.toArray⟩, rowW q] w fun e V => e = .returned (.int .i64 (putE k most M)) ∧ Own B w0 (NoteR s rt (noteP k q most M W) :: DocR rt most (putT k q most M) :: X) V := by
 obtain ⟨r0, r1, r2, r3⟩ := q
 show Calls _ _ #[ptrV s, .string ⟨k.toArray⟩, .agg #[.int .i64 r0, .int .i64 r1, .int .i64 r2, .int .i64 r3]] _ _
 have hZ := own_newRow h (r0, r1, r2, r3) 41
 obtain ⟨W1, hW1⟩ : ∃ W1, w.alloc (.cells #[.int .i64 r0, .int .i64 r1, .int .i64 r2, .int .i64 r3] 41) = W1 := ⟨_, rfl⟩
 rw [hW1] at hZ
 have HZ := Lib.hid hZ
 have HS : Hid (∀ (Y : List Rs) V, Own B w0 Y V → NoteR s rt W ∈ Y → CellsR w.heap.size (r4V (r0, r1, r2, r3)) ∈ Y → V.cell? ⟨s, 0, none⟩ = some (ptrV rt) ∧ V.cell? ⟨w.heap.size, 0, none⟩ = some (.int .i64 r0) ∧ V.cell? ⟨w.heap.size, 1, none⟩ = some (.int .i64 r1) ∧ V.cell? ⟨w.heap.size, 2, none⟩ = some (.int .i64 r2) ∧ V.cell? ⟨w.heap.size, 3, none⟩ = some (.int .i64 r3)) := Lib.hid (fun Y V h h1 h2 => ⟨(own_noteM h h1).1, own_rowM h h2⟩)
 obtain ⟨⟨g0, g1, g2, g3⟩, hgr⟩ : ∃ g, getR k M = g := ⟨_, rfl⟩
 obtain ⟨pb, hpb⟩ : ∃ pb, putB k M = pb := ⟨_, rfl⟩
 obtain ⟨pe, hpe⟩ : ∃ pe, putE k most M = pe := ⟨_, rfl⟩
 have HP : Hid (∀ (X : List Rs) V, Own B w0 (DocR rt most M :: X) V → Calls Tryz.prog 39 #[ptrV rt, .string ⟨k.toArray⟩, .agg #[.int .i64 r0, .int .i64 r1, .int .i64 r2, .int .i64 r3]] V fun e V2 => e = .returned (.tuple #[.agg #[.int .i64 g0, .int .i64 g1, .int .i64 g2, .int .i64 g3], .bool pb, .int .i64 pe]) ∧ Own B w0 (DocR rt most (putT k (r0, r1, r2, r3) most M) :: X) V2) := Lib.hid (fun X V h => by
  have := own_docPut k (r0, r1, r2, r3) hq hM h
  rw [hgr, hpb, hpe] at this
  exact this)
 have x0 := HS.out _ _ (HZ.out.later (below_drewN W1 1)) (by simp) (by simp)
 have HW := Lib.hid hW
 have HIn := Lib.hid hq
 have HPe := Lib.hid hpe
 rw [hpe]
 clear h hZ hgr hpb hpe hM hW hq
 by_cases hp0 : pe = 0
 ·subst hp0
  go_enter Tryz.func46, Tryz.ntmps46
  go_wp2
  try simp only [hW1]
  refine wp_region_held_drew (S := (fun V => V.cell? ⟨s, 0, none⟩ = some (ptrV rt) ∧ V.cell? ⟨w.heap.size, 0, none⟩ = some (.int .i64 r0) ∧ V.cell? ⟨w.heap.size, 1, none⟩ = some (.int .i64 r1) ∧ V.cell? ⟨w.heap.size, 2, none⟩ = some (.int .i64 r2) ∧ V.cell? ⟨w.heap.size, 3, none⟩ = some (.int .i64 r3))) (by kernel_rfl) x0 (fun hH0 => ?_)
  refine zzT (i := 0) (v := ?v0) rfl (by kernel_rfl) (fun _ _ _ h => h) ?h0 hH0 ?r0
  case h0 => (intro W h; (try dsimp only at h); go_simp; all_goals (with_reducible rfl))
  try simp only [zzA, zzB, zzC, Act.put, zzD, zzE, zzF]
  refine zzT (i := 1) (v := ?v1) rfl (by kernel_rfl) (fun _ _ _ h => h) ?h1 hH0 ?r1
  case h1 => (intro W h; (try dsimp only at h); go_simp; all_goals (with_reducible rfl))
  try simp only [zzA, zzB, zzC, Act.put, zzD, zzE, zzF]
  refine zzT (i := 2) (v := ?v2) rfl (by kernel_rfl) (fun _ _ _ h => h) ?h2 hH0 ?r2
  case h2 => (intro W h; (try dsimp only at h); go_simp; all_goals (with_reducible rfl))
  try simp only [zzA, zzB, zzC, Act.put, zzD, zzE, zzF]
  refine zzT (i := 3) (v := ?v3) rfl (by kernel_rfl) (fun _ _ _ h => h) ?h3 hH0 ?r3
  case h3 => (intro W h; (try dsimp only at h); go_simp; all_goals (with_reducible rfl))
  try simp only [zzA, zzB, zzC, Act.put, zzD, zzE, zzF]
  refine zzT (i := 4) (v := ?v4) rfl (by kernel_rfl) (fun _ _ _ h => h) ?h4 hH0 ?r4
  case h4 => (intro W h; (try dsimp only at h); go_simp; all_goals (with_reducible rfl))
  try simp only [zzA, zzB, zzC, Act.put, zzD, zzE, zzF]
  refine zzT (i := 5) (v := ?v5) rfl (by kernel_rfl) (fun _ _ _ h => h) ?h5 hH0 ?r5
  case h5 => (intro W h; (try dsimp only at h); go_simp; all_goals (with_reducible rfl))
  try simp only [zzA, zzB, zzC, Act.put, zzD, zzE, zzF]
  refine wpAnyH_ready (rs := [6, 11]) (by kernel_rfl) (by simp) ?_
  refine AllReadyH.cons rfl (fun K hK => ?_) (AllReadyH.cons rfl (fun K hK => ?_) AllReadyH.nil)
  ·simp only [List.getElem_toArray, List.getElem_cons_succ, List.getElem_cons_zero]
   go_simp
   (go_at_call 39; refine (HP.out _ _ (HZ.out.third.later (below_drewN W1 1))).mono ?_; rintro e V2 ⟨rfl, h2⟩; have H2 := Lib.hid h2; clear h2)
   refine hK.out _ _ (HS.out _ _ H2.out (by simp) (by simp)) (fun hH1 => ?_)
   clear hK K hH0
   try simp only [zzA, zzB, zzC, Act.put, zzD, zzE, zzF]
   refine zzT (i := 7) (v := ?va7) rfl (by kernel_rfl) (fun _ _ _ h => h) ?ha7 hH1 ?ra7
   case ha7 => (intro W h; (try dsimp only at h); go_simp; all_goals (with_reducible rfl))
   try simp only [zzA, zzB, zzC, Act.put, zzD, zzE, zzF]
   refine zzT (i := 8) (v := ?va8) rfl (by kernel_rfl) (fun _ _ _ h => h) ?ha8 hH1 ?ra8
   case ha8 => (intro W h; (try dsimp only at h); go_simp; all_goals (with_reducible rfl))
   try simp only [zzA, zzB, zzC, Act.put, zzD, zzE, zzF]
   refine zzT (i := 9) (v := ?va9) rfl (by kernel_rfl) (fun _ _ _ h => h) ?ha9 hH1 ?ra9
   case ha9 => (intro W h; (try dsimp only at h); go_simp; all_goals (with_reducible rfl))
   try simp only [zzA, zzB, zzC, Act.put, zzD, zzE, zzF]
   refine zzT (i := 10) (v := ?va10) rfl (by kernel_rfl) (fun _ _ _ h => h) ?ha10 hH1 ?ra10
   case ha10 => (intro W h; (try dsimp only at h); go_simp; all_goals (with_reducible rfl))
   try simp only [zzA, zzB, zzC, Act.put, zzD, zzE, zzF]
   refine wpAnyH_ready (rs := [11]) (by kernel_rfl) (by simp) ?_
   refine AllReadyH.cons rfl (fun K hK => ?_) AllReadyH.nil
   simp only [zzA, zzB, zzC]
   go_simp
   have h3 := own_newRow H2.out zr 41
   obtain ⟨V3, hV3⟩ : ∃ V3, V2.alloc (.cells #[.int .i64 0, .int .i64 0, .int .i64 0, .int .i64 0] 41) = V3 := ⟨_, rfl⟩
   have H3 : Hid (Own B w0 (CellsR V2.heap.size (r4V zr) :: DocR rt most (putT k (r0, r1, r2, r3) most M) :: CellsR w.heap.size (r4V (r0, r1, r2, r3)) :: NoteR s rt W :: X) V3) := Lib.hid (by rw [← hV3]; exact h3)
   rw [hV3]
   obtain ⟨P3, hP3⟩ : ∃ P3, V2.heap.size = P3 := ⟨_, rfl⟩
   rw [hP3] at H3 ⊢
   clear hP3 h3 hV3
   have hv := own_zeroM (r := P3) H3.out (by simp)
   have f0 := (hv 0 (by omega)).1
   have k0 := (hv 0 (by omega)).2
   have f1 := (hv 1 (by omega)).1
   have k1 := (hv 1 (by omega)).2
   have f2 := (hv 2 (by omega)).1
   have k2 := (hv 2 (by omega)).2
   have f3 := (hv 3 (by omega)).1
   have k3 := (hv 3 (by omega)).2
   clear hv
   refine hK.out _ _ (HS.out _ _ H3.out (by simp) (by simp)) (fun hH2 => ?_)
   clear hK K hH1
   try simp only [zzA, zzB, zzC, Act.put, zzD, zzE, zzF]
   refine wpAnyH_ready (rs := [12]) (by kernel_rfl) (by simp) ?_
   refine AllReadyH.cons rfl (fun K hK => ?_) AllReadyH.nil
   simp only [zzA, zzB, zzC]
   go_simp
   have h4 := own_cellSet (own_cellSet (own_cellSet (own_cellSet H3.out (i := 0) (by simp [r4V]) (.int .i64 g0)) (i := 1) (by simp [r4V]) (.int .i64 g1)) (i := 2) (by simp [r4V]) (.int .i64 g2)) (i := 3) (by simp [r4V]) (.int .i64 g3)
   obtain ⟨V4, hV4⟩ : ∃ V4, (((V3.setCell ⟨P3, 0, none⟩ (.int .i64 g0)).setCell ⟨P3, 1, none⟩ (.int .i64 g1)).setCell ⟨P3, 2, none⟩ (.int .i64 g2)).setCell ⟨P3, 3, none⟩ (.int .i64 g3) = V4 := ⟨_, rfl⟩
   rw [hV4] at h4 ⊢
   have H4 : Hid (Own B w0 (CellsR P3 (r4V (g0, g1, g2, g3)) :: DocR rt most (putT k (r0, r1, r2, r3) most M) :: CellsR w.heap.size (r4V (r0, r1, r2, r3)) :: NoteR s rt W :: X) V4) := Lib.hid h4
   clear h4 hV4 f0 f1 f2 f3 k0 k1 k2 k3
   refine hK.out _ _ (HS.out _ _ H4.out (by simp) (by simp)) (fun hH3 => ?_)
   clear hK K hH2
   try simp only [zzA, zzB, zzC, Act.put, zzD, zzE, zzF]
   refine zzT (i := 13) (v := ?va13) rfl (by kernel_rfl) (fun _ _ _ h => h) ?ha13 hH3 ?ra13
   case ha13 => (intro W h; (try dsimp only at h); go_simp; all_goals (with_reducible rfl))
   try simp only [zzA, zzB, zzC, Act.put, zzD, zzE, zzF]
   refine zzT (i := 14) (v := ?va14) rfl (by kernel_rfl) (fun _ _ _ h => h) ?ha14 hH3 ?ra14
   case ha14 => (intro W h; (try dsimp only at h); go_simp; all_goals (with_reducible rfl))
   try simp only [zzA, zzB, zzC, Act.put, zzD, zzE, zzF]
   refine wpAnyH_done (by kernel_rfl) ?_ _
   obtain ⟨y0, y1, y2, y3, y4⟩ := HS.out _ _ H4.out (by simp) (by simp)
   have HN := Lib.hid (own_note k (wrS (some (r0, r1, r2, r3))) r0 r1 r2 r3 true (wr_some HIn.out) HW.out (H4.out.perm (List.perm_middle (l₁ := [_, _, _]))))
   go_wp2_with (go_at_call 74; refine HN.out.mono ?_; rintro e V5 ⟨rfl, h5⟩; have H5 := Lib.hid h5; clear h5)
   go_ret
   refine ⟨rfl, ?_⟩
   unfold noteP
   rw [HPe.out, if_pos rfl]
   exact H5.out.swap.drop.third.drop
  ·simp only [List.getElem_toArray, List.getElem_cons_succ, List.getElem_cons_zero]
   go_simp
   refine hK.out _ _ (⟨old_cell hH0.1 (al1 W1.drew _), old_cell hH0.2.1 (al1 W1.drew _), old_cell hH0.2.2.1 (al1 W1.drew _), old_cell hH0.2.2.2.1 (al1 W1.drew _), old_cell hH0.2.2.2.2 (al1 W1.drew _)⟩) (fun hH1 => ?_)
   clear hK K hH0
   try simp only [zzA, zzB, zzC, Act.put, zzD, zzE, zzF]
   refine wpAnyH_ready (rs := [6]) (by kernel_rfl) (by simp) ?_
   refine AllReadyH.cons rfl (fun K hK => ?_) AllReadyH.nil
   simp only [zzA, zzB, zzC]
   go_simp
   (go_at_call 39; refine (HP.out _ _ ((own_newRow (HZ.out.third.later (below_drewN W1 1)) zr 41).swap)).mono ?_; rintro e V3 ⟨rfl, h2⟩; have H3 := Lib.hid h2.swap; clear h2)
   have H3 : Hid (Own B w0 (CellsR W1.heap.size (r4V zr) :: DocR rt most (putT k (r0, r1, r2, r3) most M) :: CellsR w.heap.size (r4V (r0, r1, r2, r3)) :: NoteR s rt W :: X) V3) := H3
   obtain ⟨P3, hP3⟩ : ∃ P3, W1.heap.size = P3 := ⟨_, rfl⟩
   rw [hP3] at H3 ⊢
   clear hP3
   have hv := own_zeroM (r := P3) H3.out (by simp)
   have f0 := (hv 0 (by omega)).1
   have k0 := (hv 0 (by omega)).2
   have f1 := (hv 1 (by omega)).1
   have k1 := (hv 1 (by omega)).2
   have f2 := (hv 2 (by omega)).1
   have k2 := (hv 2 (by omega)).2
   have f3 := (hv 3 (by omega)).1
   have k3 := (hv 3 (by omega)).2
   clear hv
   refine hK.out _ _ (HS.out _ _ H3.out (by simp) (by simp)) (fun hH2 => ?_)
   clear hK K hH1
   try simp only [zzA, zzB, zzC, Act.put, zzD, zzE, zzF]
   refine zzT (i := 7) (v := ?vb7) rfl (by kernel_rfl) (fun _ _ _ h => h) ?hb7 hH2 ?rb7
   case hb7 => (intro W h; (try dsimp only at h); go_simp; all_goals (with_reducible rfl))
   try simp only [zzA, zzB, zzC, Act.put, zzD, zzE, zzF]
   refine zzT (i := 8) (v := ?vb8) rfl (by kernel_rfl) (fun _ _ _ h => h) ?hb8 hH2 ?rb8
   case hb8 => (intro W h; (try dsimp only at h); go_simp; all_goals (with_reducible rfl))
   try simp only [zzA, zzB, zzC, Act.put, zzD, zzE, zzF]
   refine zzT (i := 9) (v := ?vb9) rfl (by kernel_rfl) (fun _ _ _ h => h) ?hb9 hH2 ?rb9
   case hb9 => (intro W h; (try dsimp only at h); go_simp; all_goals (with_reducible rfl))
   try simp only [zzA, zzB, zzC, Act.put, zzD, zzE, zzF]
   refine zzT (i := 10) (v := ?vb10) rfl (by kernel_rfl) (fun _ _ _ h => h) ?hb10 hH2 ?rb10
   case hb10 => (intro W h; (try dsimp only at h); go_simp; all_goals (with_reducible rfl))
   try simp only [zzA, zzB, zzC, Act.put, zzD, zzE, zzF]
   refine wpAnyH_ready (rs := [12]) (by kernel_rfl) (by simp) ?_
   refine AllReadyH.cons rfl (fun K hK => ?_) AllReadyH.nil
   simp only [zzA, zzB, zzC]
   go_simp
   have h4 := own_cellSet (own_cellSet (own_cellSet (own_cellSet H3.out (i := 0) (by simp [r4V]) (.int .i64 g0)) (i := 1) (by simp [r4V]) (.int .i64 g1)) (i := 2) (by simp [r4V]) (.int .i64 g2)) (i := 3) (by simp [r4V]) (.int .i64 g3)
   obtain ⟨V4, hV4⟩ : ∃ V4, (((V3.setCell ⟨P3, 0, none⟩ (.int .i64 g0)).setCell ⟨P3, 1, none⟩ (.int .i64 g1)).setCell ⟨P3, 2, none⟩ (.int .i64 g2)).setCell ⟨P3, 3, none⟩ (.int .i64 g3) = V4 := ⟨_, rfl⟩
   rw [hV4] at h4 ⊢
   have H4 : Hid (Own B w0 (CellsR P3 (r4V (g0, g1, g2, g3)) :: DocR rt most (putT k (r0, r1, r2, r3) most M) :: CellsR w.heap.size (r4V (r0, r1, r2, r3)) :: NoteR s rt W :: X) V4) := Lib.hid h4
   clear h4 hV4 f0 f1 f2 f3 k0 k1 k2 k3
   refine hK.out _ _ (HS.out _ _ H4.out (by simp) (by simp)) (fun hH3 => ?_)
   clear hK K hH2
   try simp only [zzA, zzB, zzC, Act.put, zzD, zzE, zzF]
   refine zzT (i := 13) (v := ?vb13) rfl (by kernel_rfl) (fun _ _ _ h => h) ?hb13 hH3 ?rb13
   case hb13 => (intro W h; (try dsimp only at h); go_simp; all_goals (with_reducible rfl))
   try simp only [zzA, zzB, zzC, Act.put, zzD, zzE, zzF]
   refine zzT (i := 14) (v := ?vb14) rfl (by kernel_rfl) (fun _ _ _ h => h) ?hb14 hH3 ?rb14
   case hb14 => (intro W h; (try dsimp only at h); go_simp; all_goals (with_reducible rfl))
   try simp only [zzA, zzB, zzC, Act.put, zzD, zzE, zzF]
   refine wpAnyH_done (by kernel_rfl) ?_ _
   obtain ⟨y0, y1, y2, y3, y4⟩ := HS.out _ _ H4.out (by simp) (by simp)
   have HN := Lib.hid (own_note k (wrS (some (r0, r1, r2, r3))) r0 r1 r2 r3 true (wr_some HIn.out) HW.out (H4.out.perm (List.perm_middle (l₁ := [_, _, _]))))
   go_wp2_with (go_at_call 74; refine HN.out.mono ?_; rintro e V5 ⟨rfl, h5⟩; have H5 := Lib.hid h5; clear h5)
   go_ret
   refine ⟨rfl, ?_⟩
   unfold noteP
   rw [HPe.out, if_pos rfl]
   exact H5.out.swap.drop.third.drop
 ·have HNe := Lib.hid hp0
  have d0 : decide (pe = 0) = false := by simpa using hp0
  go_enter Tryz.func46, Tryz.ntmps46
  go_wp2
  try simp only [hW1]
  refine wp_region_held_drew (S := (fun V => V.cell? ⟨s, 0, none⟩ = some (ptrV rt) ∧ V.cell? ⟨w.heap.size, 0, none⟩ = some (.int .i64 r0) ∧ V.cell? ⟨w.heap.size, 1, none⟩ = some (.int .i64 r1) ∧ V.cell? ⟨w.heap.size, 2, none⟩ = some (.int .i64 r2) ∧ V.cell? ⟨w.heap.size, 3, none⟩ = some (.int .i64 r3))) (by kernel_rfl) x0 (fun hH0n => ?_)
  refine zzT (i := 0) (v := ?vn0) rfl (by kernel_rfl) (fun _ _ _ h => h) ?hn0 hH0n ?rn0
  case hn0 => (intro W h; (try dsimp only at h); go_simp; all_goals (with_reducible rfl))
  try simp only [zzA, zzB, zzC, Act.put, zzD, zzE, zzF]
  refine zzT (i := 1) (v := ?vn1) rfl (by kernel_rfl) (fun _ _ _ h => h) ?hn1 hH0n ?rn1
  case hn1 => (intro W h; (try dsimp only at h); go_simp; all_goals (with_reducible rfl))
  try simp only [zzA, zzB, zzC, Act.put, zzD, zzE, zzF]
  refine zzT (i := 2) (v := ?vn2) rfl (by kernel_rfl) (fun _ _ _ h => h) ?hn2 hH0n ?rn2
  case hn2 => (intro W h; (try dsimp only at h); go_simp; all_goals (with_reducible rfl))
  try simp only [zzA, zzB, zzC, Act.put, zzD, zzE, zzF]
  refine zzT (i := 3) (v := ?vn3) rfl (by kernel_rfl) (fun _ _ _ h => h) ?hn3 hH0n ?rn3
  case hn3 => (intro W h; (try dsimp only at h); go_simp; all_goals (with_reducible rfl))
  try simp only [zzA, zzB, zzC, Act.put, zzD, zzE, zzF]
  refine zzT (i := 4) (v := ?vn4) rfl (by kernel_rfl) (fun _ _ _ h => h) ?hn4 hH0n ?rn4
  case hn4 => (intro W h; (try dsimp only at h); go_simp; all_goals (with_reducible rfl))
  try simp only [zzA, zzB, zzC, Act.put, zzD, zzE, zzF]
  refine zzT (i := 5) (v := ?vn5) rfl (by kernel_rfl) (fun _ _ _ h => h) ?hn5 hH0n ?rn5
  case hn5 => (intro W h; (try dsimp only at h); go_simp; all_goals (with_reducible rfl))
  try simp only [zzA, zzB, zzC, Act.put, zzD, zzE, zzF]
  refine wpAnyH_ready (rs := [6, 11]) (by kernel_rfl) (by simp) ?_
  refine AllReadyH.cons rfl (fun K hK => ?_) (AllReadyH.cons rfl (fun K hK => ?_) AllReadyH.nil)
  ·simp only [List.getElem_toArray, List.getElem_cons_succ, List.getElem_cons_zero]
   go_simp
   (go_at_call 39; refine (HP.out _ _ (HZ.out.third.later (below_drewN W1 1))).mono ?_; rintro e V2 ⟨rfl, h2⟩; have H2 := Lib.hid h2; clear h2)
   refine hK.out _ _ (HS.out _ _ H2.out (by simp) (by simp)) (fun hH1n => ?_)
   clear hK K hH0n
   try simp only [zzA, zzB, zzC, Act.put, zzD, zzE, zzF]
   refine zzT (i := 7) (v := ?vna7) rfl (by kernel_rfl) (fun _ _ _ h => h) ?hna7 hH1n ?rna7
   case hna7 => (intro W h; (try dsimp only at h); go_simp; all_goals (with_reducible rfl))
   try simp only [zzA, zzB, zzC, Act.put, zzD, zzE, zzF]
   refine zzT (i := 8) (v := ?vna8) rfl (by kernel_rfl) (fun _ _ _ h => h) ?hna8 hH1n ?rna8
   case hna8 => (intro W h; (try dsimp only at h); go_simp; all_goals (with_reducible rfl))
   try simp only [zzA, zzB, zzC, Act.put, zzD, zzE, zzF]
   refine zzT (i := 9) (v := ?vna9) rfl (by kernel_rfl) (fun _ _ _ h => h) ?hna9 hH1n ?rna9
   case hna9 => (intro W h; (try dsimp only at h); go_simp; all_goals (with_reducible rfl))
   try simp only [zzA, zzB, zzC, Act.put, zzD, zzE, zzF]
   refine zzT (i := 10) (v := ?vna10) rfl (by kernel_rfl) (fun _ _ _ h => h) ?hna10 hH1n ?rna10
   case hna10 => (intro W h; (try dsimp only at h); go_simp; all_goals (with_reducible rfl))
   try simp only [zzA, zzB, zzC, Act.put, zzD, zzE, zzF]
   refine wpAnyH_ready (rs := [11]) (by kernel_rfl) (by simp) ?_
   refine AllReadyH.cons rfl (fun K hK => ?_) AllReadyH.nil
   simp only [zzA, zzB, zzC]
   go_simp
   have h3 := own_newRow H2.out zr 41
   obtain ⟨V3, hV3⟩ : ∃ V3, V2.alloc (.cells #[.int .i64 0, .int .i64 0, .int .i64 0, .int .i64 0] 41) = V3 := ⟨_, rfl⟩
   have H3 : Hid (Own B w0 (CellsR V2.heap.size (r4V zr) :: DocR rt most (putT k (r0, r1, r2, r3) most M) :: CellsR w.heap.size (r4V (r0, r1, r2, r3)) :: NoteR s rt W :: X) V3) := Lib.hid (by rw [← hV3]; exact h3)
   rw [hV3]
   obtain ⟨P3, hP3⟩ : ∃ P3, V2.heap.size = P3 := ⟨_, rfl⟩
   rw [hP3] at H3 ⊢
   clear hP3 h3 hV3
   have hv := own_zeroM (r := P3) H3.out (by simp)
   have f0 := (hv 0 (by omega)).1
   have k0 := (hv 0 (by omega)).2
   have f1 := (hv 1 (by omega)).1
   have k1 := (hv 1 (by omega)).2
   have f2 := (hv 2 (by omega)).1
   have k2 := (hv 2 (by omega)).2
   have f3 := (hv 3 (by omega)).1
   have k3 := (hv 3 (by omega)).2
   clear hv
   refine hK.out _ _ (HS.out _ _ H3.out (by simp) (by simp)) (fun hH2n => ?_)
   clear hK K hH1n
   try simp only [zzA, zzB, zzC, Act.put, zzD, zzE, zzF]
   refine wpAnyH_ready (rs := [12]) (by kernel_rfl) (by simp) ?_
   refine AllReadyH.cons rfl (fun K hK => ?_) AllReadyH.nil
   simp only [zzA, zzB, zzC]
   go_simp
   have h4 := own_cellSet (own_cellSet (own_cellSet (own_cellSet H3.out (i := 0) (by simp [r4V]) (.int .i64 g0)) (i := 1) (by simp [r4V]) (.int .i64 g1)) (i := 2) (by simp [r4V]) (.int .i64 g2)) (i := 3) (by simp [r4V]) (.int .i64 g3)
   obtain ⟨V4, hV4⟩ : ∃ V4, (((V3.setCell ⟨P3, 0, none⟩ (.int .i64 g0)).setCell ⟨P3, 1, none⟩ (.int .i64 g1)).setCell ⟨P3, 2, none⟩ (.int .i64 g2)).setCell ⟨P3, 3, none⟩ (.int .i64 g3) = V4 := ⟨_, rfl⟩
   rw [hV4] at h4 ⊢
   have H4 : Hid (Own B w0 (CellsR P3 (r4V (g0, g1, g2, g3)) :: DocR rt most (putT k (r0, r1, r2, r3) most M) :: CellsR w.heap.size (r4V (r0, r1, r2, r3)) :: NoteR s rt W :: X) V4) := Lib.hid h4
   clear h4 hV4 f0 f1 f2 f3 k0 k1 k2 k3
   refine hK.out _ _ (HS.out _ _ H4.out (by simp) (by simp)) (fun hH3n => ?_)
   clear hK K hH2n
   try simp only [zzA, zzB, zzC, Act.put, zzD, zzE, zzF]
   refine zzT (i := 13) (v := ?vna13) rfl (by kernel_rfl) (fun _ _ _ h => h) ?hna13 hH3n ?rna13
   case hna13 => (intro W h; (try dsimp only at h); go_simp; all_goals (with_reducible rfl))
   try simp only [zzA, zzB, zzC, Act.put, zzD, zzE, zzF]
   refine zzT (i := 14) (v := ?vna14) rfl (by kernel_rfl) (fun _ _ _ h => h) ?hna14 hH3n ?rna14
   case hna14 => (intro W h; (try dsimp only at h); go_simp; all_goals (with_reducible rfl))
   try simp only [zzA, zzB, zzC, Act.put, zzD, zzE, zzF]
   refine wpAnyH_done (by kernel_rfl) ?_ _
   go_wp2
   go_ret
   refine ⟨rfl, ?_⟩
   unfold noteP
   rw [HPe.out, if_neg HNe.out]
   exact (H4.out.perm (List.perm_middle (l₁ := [_, _, _]))).swap.drop.third.drop
  ·simp only [List.getElem_toArray, List.getElem_cons_succ, List.getElem_cons_zero]
   go_simp
   refine hK.out _ _ (⟨old_cell hH0n.1 (al1 W1.drew _), old_cell hH0n.2.1 (al1 W1.drew _), old_cell hH0n.2.2.1 (al1 W1.drew _), old_cell hH0n.2.2.2.1 (al1 W1.drew _), old_cell hH0n.2.2.2.2 (al1 W1.drew _)⟩) (fun hH1n => ?_)
   clear hK K hH0n
   try simp only [zzA, zzB, zzC, Act.put, zzD, zzE, zzF]
   refine wpAnyH_ready (rs := [6]) (by kernel_rfl) (by simp) ?_
   refine AllReadyH.cons rfl (fun K hK => ?_) AllReadyH.nil
   simp only [zzA, zzB, zzC]
   go_simp
   (go_at_call 39; refine (HP.out _ _ ((own_newRow (HZ.out.third.later (below_drewN W1 1)) zr 41).swap)).mono ?_; rintro e V3 ⟨rfl, h2⟩; have H3 := Lib.hid h2.swap; clear h2)
   have H3 : Hid (Own B w0 (CellsR W1.heap.size (r4V zr) :: DocR rt most (putT k (r0, r1, r2, r3) most M) :: CellsR w.heap.size (r4V (r0, r1, r2, r3)) :: NoteR s rt W :: X) V3) := H3
   obtain ⟨P3, hP3⟩ : ∃ P3, W1.heap.size = P3 := ⟨_, rfl⟩
   rw [hP3] at H3 ⊢
   clear hP3
   have hv := own_zeroM (r := P3) H3.out (by simp)
   have f0 := (hv 0 (by omega)).1
   have k0 := (hv 0 (by omega)).2
   have f1 := (hv 1 (by omega)).1
   have k1 := (hv 1 (by omega)).2
   have f2 := (hv 2 (by omega)).1
   have k2 := (hv 2 (by omega)).2
   have f3 := (hv 3 (by omega)).1
   have k3 := (hv 3 (by omega)).2
   clear hv
   refine hK.out _ _ (HS.out _ _ H3.out (by simp) (by simp)) (fun hH2n => ?_)
   clear hK K hH1n
   try simp only [zzA, zzB, zzC, Act.put, zzD, zzE, zzF]
   refine zzT (i := 7) (v := ?vnb7) rfl (by kernel_rfl) (fun _ _ _ h => h) ?hnb7 hH2n ?rnb7
   case hnb7 => (intro W h; (try dsimp only at h); go_simp; all_goals (with_reducible rfl))
   try simp only [zzA, zzB, zzC, Act.put, zzD, zzE, zzF]
   refine zzT (i := 8) (v := ?vnb8) rfl (by kernel_rfl) (fun _ _ _ h => h) ?hnb8 hH2n ?rnb8
   case hnb8 => (intro W h; (try dsimp only at h); go_simp; all_goals (with_reducible rfl))
   try simp only [zzA, zzB, zzC, Act.put, zzD, zzE, zzF]
   refine zzT (i := 9) (v := ?vnb9) rfl (by kernel_rfl) (fun _ _ _ h => h) ?hnb9 hH2n ?rnb9
   case hnb9 => (intro W h; (try dsimp only at h); go_simp; all_goals (with_reducible rfl))
   try simp only [zzA, zzB, zzC, Act.put, zzD, zzE, zzF]
   refine zzT (i := 10) (v := ?vnb10) rfl (by kernel_rfl) (fun _ _ _ h => h) ?hnb10 hH2n ?rnb10
   case hnb10 => (intro W h; (try dsimp only at h); go_simp; all_goals (with_reducible rfl))
   try simp only [zzA, zzB, zzC, Act.put, zzD, zzE, zzF]
   refine wpAnyH_ready (rs := [12]) (by kernel_rfl) (by simp) ?_
   refine AllReadyH.cons rfl (fun K hK => ?_) AllReadyH.nil
   simp only [zzA, zzB, zzC]
   go_simp
   have h4 := own_cellSet (own_cellSet (own_cellSet (own_cellSet H3.out (i := 0) (by simp [r4V]) (.int .i64 g0)) (i := 1) (by simp [r4V]) (.int .i64 g1)) (i := 2) (by simp [r4V]) (.int .i64 g2)) (i := 3) (by simp [r4V]) (.int .i64 g3)
   obtain ⟨V4, hV4⟩ : ∃ V4, (((V3.setCell ⟨P3, 0, none⟩ (.int .i64 g0)).setCell ⟨P3, 1, none⟩ (.int .i64 g1)).setCell ⟨P3, 2, none⟩ (.int .i64 g2)).setCell ⟨P3, 3, none⟩ (.int .i64 g3) = V4 := ⟨_, rfl⟩
   rw [hV4] at h4 ⊢
   have H4 : Hid (Own B w0 (CellsR P3 (r4V (g0, g1, g2, g3)) :: DocR rt most (putT k (r0, r1, r2, r3) most M) :: CellsR w.heap.size (r4V (r0, r1, r2, r3)) :: NoteR s rt W :: X) V4) := Lib.hid h4
   clear h4 hV4 f0 f1 f2 f3 k0 k1 k2 k3
   refine hK.out _ _ (HS.out _ _ H4.out (by simp) (by simp)) (fun hH3n => ?_)
   clear hK K hH2n
   try simp only [zzA, zzB, zzC, Act.put, zzD, zzE, zzF]
   refine zzT (i := 13) (v := ?vnb13) rfl (by kernel_rfl) (fun _ _ _ h => h) ?hnb13 hH3n ?rnb13
   case hnb13 => (intro W h; (try dsimp only at h); go_simp; all_goals (with_reducible rfl))
   try simp only [zzA, zzB, zzC, Act.put, zzD, zzE, zzF]
   refine zzT (i := 14) (v := ?vnb14) rfl (by kernel_rfl) (fun _ _ _ h => h) ?hnb14 hH3n ?rnb14
   case hnb14 => (intro W h; (try dsimp only at h); go_simp; all_goals (with_reducible rfl))
   try simp only [zzA, zzB, zzC, Act.put, zzD, zzE, zzF]
   refine wpAnyH_done (by kernel_rfl) ?_ _
   go_wp2
   go_ret
   refine ⟨rfl, ?_⟩
   unfold noteP
   rw [HPe.out, if_neg HNe.out]
   exact (H4.out.perm (List.perm_middle (l₁ := [_, _, _]))).swap.drop.third.drop
theorem own_refDel (k : Str) (hW : W.length ≤ 100000) (hM : M.length ≤ 100000) (h : Own B w0 (NoteR s rt W :: DocR rt most M :: X) w) :
  Calls Tryz.prog 47 #[ptrV s, .string ⟨k.toArray⟩] w fun e V => e = .returned (.int .i64 (getE k M)) ∧ Own B w0 (NoteR s rt (noteD k M W) :: DocR rt most (delT k M) :: X) V := by
 have x0 := (own_noteM h (s := s) (rt := rt) (W := W) (by simp)).1
 obtain ⟨⟨g0, g1, g2, g3⟩, hgr⟩ : ∃ g, getR k M = g := ⟨_, rfl⟩
 obtain ⟨pe, hpe⟩ : ∃ pe, getE k M = pe := ⟨_, rfl⟩
 have hP := own_docDel k hM h.swap
 rw [hgr, hpe] at hP
 simp only [rowW] at hP
 have HP := Lib.hid hP
 have HPe := Lib.hid hpe
 have HW := Lib.hid hW
 rw [hpe]
 clear h hP hgr hpe hM hW
 by_cases hp0 : pe = 0
 ·subst hp0
  go_enter Tryz.func47, Tryz.ntmps47
  go_wp2_with (first
   | (go_at_call 40; refine HP.out.mono ?_; rintro e V2 ⟨rfl, h2⟩; have H2 := Lib.hid (own_newRow h2 (g0, g1, g2, g3) 41); clear h2)
   | (go_at_call 74; refine (own_note k (wrS none) 0 0 0 0 false rfl HW.out (H2.out.third)).mono ?_; rintro e V5 ⟨rfl, h5⟩; have H5 := Lib.hid h5; clear h5))
  go_ret
  refine ⟨rfl, ?_⟩
  unfold noteD
  rw [HPe.out, if_pos rfl]
  exact H5.out.swap.drop
 ·have HNe := Lib.hid hp0
  have d0 : decide (pe = 0) = false := by simpa using hp0

  go_enter Tryz.func47, Tryz.ntmps47
  go_wp2_with (go_at_call 40; refine HP.out.mono ?_; rintro e V2 ⟨rfl, h2⟩; have H2 := Lib.hid h2; clear h2)
  go_ret
  refine ⟨rfl, ?_⟩
  unfold noteD
  rw [HPe.out, if_neg HNe.out]
  exact H2.out.swap.later (al1 V2 _)
end
end Bf
end Go.Proofs.YtecnijnmgdfdhaaGreat

namespace Go.Proofs.YtecnijnmgdfdhaaGreat
namespace Bf
open Go.RowKit Tr Tb
open Ky (less)
theorem front2 {B : Nat} {w0 w : World} {C R1 R2 R3 R4 : Rs} {X : List Rs} (h : Own B w0 (R1 :: R2 :: C :: R3 :: R4 :: X) w) : Own B w0 (R3 :: R4 :: C :: R1 :: R2 :: X) w := by
 refine h.perm ?_
 refine (List.perm_middle (l₁ := [R1, R2, C])).trans (List.Perm.cons _ ?_)
 refine (List.perm_middle (l₁ := [R1, R2, C])).trans (List.Perm.cons _ ?_)
 exact (List.perm_middle (l₁ := [R1, R2]))
theorem back2 {B : Nat} {w0 w : World} {R1 R2 R3 R4 : Rs} {X : List Rs} (h : Own B w0 (R3 :: R4 :: R1 :: R2 :: X) w) : Own B w0 (R1 :: R2 :: R3 :: R4 :: X) w := by
 refine h.perm ?_
 refine (List.perm_middle (l₁ := [R3, R4])).trans (List.Perm.cons _ ?_)
 exact (List.perm_middle (l₁ := [R3, R4]))
section
variable {B : Nat} {w0 w V : World} {X Y : List Rs} {bb tb most o s rt r : Nat} {W L M : List Pr}
theorem own_docGet (k : Str) (hn : M.length ≤ 100000) (h : Own B w0 Y w) (hm : DocR r most M ∈ Y) :
  Calls Tryz.prog 41 #[ptrV r, .string ⟨k.toArray⟩] w fun e V => e = .returned (.tuple #[rowW (getR k M), .int .i64 (getE k M)]) ∧ Below w.heap.size w V := by
 obtain ⟨_, _, F, hs, _⟩ := h
 obtain ⟨F1, F0, a, c, t, _⟩ := sepF_mem hs hm
 exact getD_any k (by omega) w t
set_option maxHeartbeats 16000000 in
set_option maxRecDepth 100000 in
theorem own_does8 (x : OpT) (hx : OkOp x) (hW : W.length ≤ 90000) (h : Own B w0 (BufR bb tb W :: TabR tb most o L :: NoteR s rt W :: DocR rt most (overT W L) :: X) w) :
  Calls Tryz.prog 16 #[ptrV bb, ptrV s, .agg #[.int .i64 x.1, .string ⟨x.2.1.toArray⟩, .int .i64 x.2.2.1, .int .i64 x.2.2.2.1, .int .i64 x.2.2.2.2.1, .int .i64 x.2.2.2.2.2]] w fun e V => e = .returned (.bool true) ∧
   Own B w0 (BufR bb tb (stepB most L x W) :: TabR tb most o L :: NoteR s rt (stepB most L x W) :: DocR rt most (overT (stepB most L x W) L) :: X) V := by
 obtain ⟨ask, k, r0, r1, r2, r3⟩ := x
 have sW := own_bufSorted h
 have sL := own_tabSorted h.swap
 have okL := own_tabOk h.swap
 have hM : (overT W L).length ≤ 100000 := by have := over_bound sW sL; have := okL.len; have := okL.hi; omega
 have hb := (own_cells h #[.int .i64 ask, .string ⟨k.toArray⟩, .int .i64 r0, .int .i64 r1, .int .i64 r2, .int .i64 r3] 43).perm (List.perm_middle (l₁ := [_, _])).symm
 obtain ⟨W3, hW3⟩ : ∃ W3, w.alloc (.cells #[.int .i64 ask, .string ⟨k.toArray⟩, .int .i64 r0, .int .i64 r1, .int .i64 r2, .int .i64 r3] 43) = W3 := ⟨_, rfl⟩
 rw [hW3] at hb
 obtain ⟨P, hP⟩ : ∃ P, w.heap.size = P := ⟨_, rfl⟩
 rw [hP] at hb
 have HB : Hid (Own B w0 (BufR bb tb W :: TabR tb most o L :: CellsR P (opV (ask, k, r0, r1, r2, r3)) :: NoteR s rt W :: DocR rt most (overT W L) :: X) W3) := Lib.hid hb
 have HC : Hid (∀ (Y : List Rs) V, Own B w0 Y V → CellsR P (opV (ask, k, r0, r1, r2, r3)) ∈ Y → V.cell? ⟨P, 0, none⟩ = some (.int .i64 ask) ∧ V.cell? ⟨P, 1, none⟩ = some (.string ⟨k.toArray⟩) ∧ V.cell? ⟨P, 2, none⟩ = some (.int .i64 r0) ∧ V.cell? ⟨P, 3, none⟩ = some (.int .i64 r1) ∧ V.cell? ⟨P, 4, none⟩ = some (.int .i64 r2) ∧ V.cell? ⟨P, 5, none⟩ = some (.int .i64 r3)) := Lib.hid (fun Y V h hm =>
  ⟨(own_cellM h hm (i := 0) rfl).1, (own_cellM h hm (i := 1) rfl).1, (own_cellM h hm (i := 2) rfl).1, (own_cellM h hm (i := 3) rfl).1, (own_cellM h hm (i := 4) rfl).1, (own_cellM h hm (i := 5) rfl).1⟩)
 obtain ⟨c0, c1, c2, c3, c4, c5⟩ := HC.out _ _ HB.out (by simp)
 have HIn := Lib.hid hx.2
 have HLaw := Lib.hid (And.intro (over_put (most := most) sW sL) (over_del sW sL))
 by_cases h0 : ask = 0
 ·subst h0
  have HSt : Hid (stepB most L (0, k, r0, r1, r2, r3) W = putW k (r0, r1, r2, r3) most W L) := Lib.hid (by unfold stepB; simp)
  obtain ⟨pe, hpe⟩ : ∃ pe, putE k most (overT W L) = pe := ⟨_, rfl⟩
  have hp := own_bufPut k (r0, r1, r2, r3) HIn.out (by omega) (HB.out.later (below_drewN W3 1))
  rw [hpe] at hp
  have HP := Lib.hid hp
  have HQ : Hid (∀ V, Own B w0 (NoteR s rt W :: DocR rt most (overT W L) :: CellsR P (opV (0, k, r0, r1, r2, r3)) :: BufR bb tb (putW k (r0, r1, r2, r3) most W L) :: TabR tb most o L :: X) V → Calls Tryz.prog 46 #[ptrV s, .string ⟨k.toArray⟩, .agg #[.int .i64 r0, .int .i64 r1, .int .i64 r2, .int .i64 r3]] V fun e V2 => e = .returned (.int .i64 pe) ∧
    Own B w0 (CellsR P (opV (0, k, r0, r1, r2, r3)) :: NoteR s rt (putW k (r0, r1, r2, r3) most W L) :: DocR rt most (overT (putW k (r0, r1, r2, r3) most W L) L) :: BufR bb tb (putW k (r0, r1, r2, r3) most W L) :: TabR tb most o L :: X) V2) := Lib.hid (fun V h => by
   have := own_refPut k (r0, r1, r2, r3) HIn.out (by omega) hM h
   rw [hpe] at this
   refine this.mono (fun e V2 ⟨q1, q2⟩ => ⟨q1, ?_⟩)
   rw [HLaw.out.1]
   exact q2.third)
  have kd : (pe == pe) = true := by simp
  have kd2 : decide (pe = pe) = true := by simp
  clear h sW sL okL hM hb hpe hp hx hW
  go_enter Tryz.func16, Tryz.ntmps16
  go_wp2
  try simp only [hP, hW3]
  refine wp_region_held_drew (S := (fun V => V.cell? ⟨P, 0, none⟩ = some (.int .i64 0) ∧ V.cell? ⟨P, 1, none⟩ = some (.string ⟨k.toArray⟩) ∧ V.cell? ⟨P, 2, none⟩ = some (.int .i64 r0) ∧ V.cell? ⟨P, 3, none⟩ = some (.int .i64 r1) ∧ V.cell? ⟨P, 4, none⟩ = some (.int .i64 r2) ∧ V.cell? ⟨P, 5, none⟩ = some (.int .i64 r3))) (by kernel_rfl) (HC.out _ _ (HB.out.later (below_drewN W3 1)) (by simp)) (fun hH0p => ?_)
  refine zzT (i := 0) (v := ?vp0) rfl (by kernel_rfl) (fun _ _ _ h => h) ?hp0 hH0p ?rp0
  case hp0 => (intro W h; (try dsimp only at h); go_simp; all_goals (with_reducible rfl))
  try simp only [zzA, zzB, zzC, Act.put, zzD, zzE, zzF]
  refine zzT (i := 1) (v := ?vp1) rfl (by kernel_rfl) (fun _ _ _ h => h) ?hp1 hH0p ?rp1
  case hp1 => (intro W h; (try dsimp only at h); go_simp; all_goals (with_reducible rfl))
  try simp only [zzA, zzB, zzC, Act.put, zzD, zzE, zzF]
  refine zzT (i := 2) (v := ?vp2) rfl (by kernel_rfl) (fun _ _ _ h => h) ?hp2 hH0p ?rp2
  case hp2 => (intro W h; (try dsimp only at h); go_simp; all_goals (with_reducible rfl))
  try simp only [zzA, zzB, zzC, Act.put, zzD, zzE, zzF]
  refine zzT (i := 3) (v := ?vp3) rfl (by kernel_rfl) (fun _ _ _ h => h) ?hp3 hH0p ?rp3
  case hp3 => (intro W h; (try dsimp only at h); go_simp; all_goals (with_reducible rfl))
  try simp only [zzA, zzB, zzC, Act.put, zzD, zzE, zzF]
  refine zzT (i := 4) (v := ?vp4) rfl (by kernel_rfl) (fun _ _ _ h => h) ?hp4 hH0p ?rp4
  case hp4 => (intro W h; (try dsimp only at h); go_simp; all_goals (with_reducible rfl))
  try simp only [zzA, zzB, zzC, Act.put, zzD, zzE, zzF]
  refine zzT (i := 6) (v := ?vp6) rfl (by kernel_rfl) (fun _ _ _ h => h) ?hp6 hH0p ?rp6
  case hp6 => (intro W h; (try dsimp only at h); go_simp; all_goals (with_reducible rfl))
  try simp only [zzA, zzB, zzC, Act.put, zzD, zzE, zzF]
  refine zzT (i := 7) (v := ?vp7) rfl (by kernel_rfl) (fun _ _ _ h => h) ?hp7 hH0p ?rp7
  case hp7 => (intro W h; (try dsimp only at h); go_simp; all_goals (with_reducible rfl))
  try simp only [zzA, zzB, zzC, Act.put, zzD, zzE, zzF]
  refine zzT (i := 8) (v := ?vp8) rfl (by kernel_rfl) (fun _ _ _ h => h) ?hp8 hH0p ?rp8
  case hp8 => (intro W h; (try dsimp only at h); go_simp; all_goals (with_reducible rfl))
  try simp only [zzA, zzB, zzC, Act.put, zzD, zzE, zzF]
  refine zzT (i := 9) (v := ?vp9) rfl (by kernel_rfl) (fun _ _ _ h => h) ?hp9 hH0p ?rp9
  case hp9 => (intro W h; (try dsimp only at h); go_simp; all_goals (with_reducible rfl))
  try simp only [zzA, zzB, zzC, Act.put, zzD, zzE, zzF]
  refine zzT (i := 10) (v := ?vp10) rfl (by kernel_rfl) (fun _ _ _ h => h) ?hp10 hH0p ?rp10
  case hp10 => (intro W h; (try dsimp only at h); go_simp; all_goals (with_reducible rfl))
  try simp only [zzA, zzB, zzC, Act.put, zzD, zzE, zzF]
  refine wpAnyH_ready (rs := [5]) (by kernel_rfl) (by simp) ?_
  refine AllReadyH.cons rfl (fun K hK => ?_) AllReadyH.nil
  simp only [zzA, zzB, zzC]
  go_simp
  (go_at_call 23; refine HP.out.mono ?_; rintro e V1 ⟨rfl, h1⟩; have H1 := Lib.hid h1; clear h1)
  refine hK.out _ _ (HC.out _ _ H1.out (by simp)) (fun hH1p => ?_)
  clear hK K hH0p
  try simp only [zzA, zzB, zzC, Act.put, zzD, zzE, zzF]
  refine wpAnyH_ready (rs := [11]) (by kernel_rfl) (by simp) ?_
  refine AllReadyH.cons rfl (fun K hK => ?_) AllReadyH.nil
  simp only [zzA, zzB, zzC]
  go_simp
  (go_at_call 46; refine (HQ.out _ (front2 H1.out)).mono ?_; rintro e V2 ⟨rfl, h2⟩; have H2 := Lib.hid h2; clear h2)
  refine hK.out _ _ (HC.out _ _ H2.out (by simp)) (fun hH2p => ?_)
  clear hK K hH1p
  try simp only [zzA, zzB, zzC, Act.put, zzD, zzE, zzF]
  refine zzT (i := 12) (v := ?vp12) rfl (by kernel_rfl) (fun _ _ _ h => h) ?hp12 hH2p ?rp12
  case hp12 => (intro W h; (try dsimp only at h); go_simp; all_goals (with_reducible rfl))
  try simp only [zzA, zzB, zzC, Act.put, zzD, zzE, zzF]
  refine zzT (i := 13) (v := ?vp13) rfl (by kernel_rfl) (fun _ _ _ h => h) ?hp13 hH2p ?rp13
  case hp13 => (intro W h; (try dsimp only at h); go_simp; all_goals (with_reducible rfl))
  try simp only [zzA, zzB, zzC, Act.put, zzD, zzE, zzF]
  refine wpAnyH_done (by kernel_rfl) ?_ _
  go_wp2
  go_ret
  refine ⟨rfl, ?_⟩
  rw [HSt.out]
  exact back2 H2.out.drop
 by_cases h1 : ask = 1
 ·subst h1
  have HSt : Hid (stepB most L (1, k, r0, r1, r2, r3) W = delW k W L) := Lib.hid (by unfold stepB; simp)
  obtain ⟨pe, hpe⟩ : ∃ pe, getE k (overT W L) = pe := ⟨_, rfl⟩
  have hp := own_bufDel k (by omega) (HB.out.later (below_drewN W3 1))
  rw [hpe] at hp
  have HP := Lib.hid hp
  have HQ : Hid (∀ V, Own B w0 (NoteR s rt W :: DocR rt most (overT W L) :: CellsR P (opV (1, k, r0, r1, r2, r3)) :: BufR bb tb (delW k W L) :: TabR tb most o L :: X) V → Calls Tryz.prog 47 #[ptrV s, .string ⟨k.toArray⟩] V fun e V2 => e = .returned (.int .i64 pe) ∧
    Own B w0 (CellsR P (opV (1, k, r0, r1, r2, r3)) :: NoteR s rt (delW k W L) :: DocR rt most (overT (delW k W L) L) :: BufR bb tb (delW k W L) :: TabR tb most o L :: X) V2) := Lib.hid (fun V h => by
   have := own_refDel k (by omega) hM h
   rw [hpe] at this
   refine this.mono (fun e V2 ⟨q1, q2⟩ => ⟨q1, ?_⟩)
   rw [HLaw.out.2]
   exact q2.third)
  have kd : (pe == pe) = true := by simp
  have kd2 : decide (pe = pe) = true := by simp
  clear h sW sL okL hM hb hpe hp hx hW h0
  go_enter Tryz.func16, Tryz.ntmps16
  go_wp2
  try simp only [hP, hW3]
  refine wp_region_held_drew (S := (fun V => V.cell? ⟨P, 0, none⟩ = some (.int .i64 1) ∧ V.cell? ⟨P, 1, none⟩ = some (.string ⟨k.toArray⟩) ∧ V.cell? ⟨P, 2, none⟩ = some (.int .i64 r0) ∧ V.cell? ⟨P, 3, none⟩ = some (.int .i64 r1) ∧ V.cell? ⟨P, 4, none⟩ = some (.int .i64 r2) ∧ V.cell? ⟨P, 5, none⟩ = some (.int .i64 r3))) (by kernel_rfl) (HC.out _ _ (HB.out.later (below_drewN W3 1)) (by simp)) (fun hH0d => ?_)
  refine zzT (i := 0) (v := ?vd0) rfl (by kernel_rfl) (fun _ _ _ h => h) ?hd0 hH0d ?rd0
  case hd0 => (intro W h; (try dsimp only at h); go_simp; all_goals (with_reducible rfl))
  try simp only [zzA, zzB, zzC, Act.put, zzD, zzE, zzF]
  refine zzT (i := 1) (v := ?vd1) rfl (by kernel_rfl) (fun _ _ _ h => h) ?hd1 hH0d ?rd1
  case hd1 => (intro W h; (try dsimp only at h); go_simp; all_goals (with_reducible rfl))
  try simp only [zzA, zzB, zzC, Act.put, zzD, zzE, zzF]
  refine zzT (i := 2) (v := ?vd2) rfl (by kernel_rfl) (fun _ _ _ h => h) ?hd2 hH0d ?rd2
  case hd2 => (intro W h; (try dsimp only at h); go_simp; all_goals (with_reducible rfl))
  try simp only [zzA, zzB, zzC, Act.put, zzD, zzE, zzF]
  refine zzT (i := 4) (v := ?vd4) rfl (by kernel_rfl) (fun _ _ _ h => h) ?hd4 hH0d ?rd4
  case hd4 => (intro W h; (try dsimp only at h); go_simp; all_goals (with_reducible rfl))
  try simp only [zzA, zzB, zzC, Act.put, zzD, zzE, zzF]
  refine zzT (i := 5) (v := ?vd5) rfl (by kernel_rfl) (fun _ _ _ h => h) ?hd5 hH0d ?rd5
  case hd5 => (intro W h; (try dsimp only at h); go_simp; all_goals (with_reducible rfl))
  try simp only [zzA, zzB, zzC, Act.put, zzD, zzE, zzF]
  refine zzT (i := 6) (v := ?vd6) rfl (by kernel_rfl) (fun _ _ _ h => h) ?hd6 hH0d ?rd6
  case hd6 => (intro W h; (try dsimp only at h); go_simp; all_goals (with_reducible rfl))
  try simp only [zzA, zzB, zzC, Act.put, zzD, zzE, zzF]
  refine wpAnyH_ready (rs := [3]) (by kernel_rfl) (by simp) ?_
  refine AllReadyH.cons rfl (fun K hK => ?_) AllReadyH.nil
  simp only [zzA, zzB, zzC]
  go_simp
  (go_at_call 24; refine HP.out.mono ?_; rintro e V1 ⟨rfl, h1⟩; have H1 := Lib.hid h1; clear h1)
  refine hK.out _ _ (HC.out _ _ H1.out (by simp)) (fun hH1d => ?_)
  clear hK K hH0d
  try simp only [zzA, zzB, zzC, Act.put, zzD, zzE, zzF]
  refine wpAnyH_ready (rs := [7]) (by kernel_rfl) (by simp) ?_
  refine AllReadyH.cons rfl (fun K hK => ?_) AllReadyH.nil
  simp only [zzA, zzB, zzC]
  go_simp
  (go_at_call 47; refine (HQ.out _ (front2 H1.out)).mono ?_; rintro e V2 ⟨rfl, h2⟩; have H2 := Lib.hid h2; clear h2)
  refine hK.out _ _ (HC.out _ _ H2.out (by simp)) (fun hH2d => ?_)
  clear hK K hH1d
  try simp only [zzA, zzB, zzC, Act.put, zzD, zzE, zzF]
  refine zzT (i := 8) (v := ?vd8) rfl (by kernel_rfl) (fun _ _ _ h => h) ?hd8 hH2d ?rd8
  case hd8 => (intro W h; (try dsimp only at h); go_simp; all_goals (with_reducible rfl))
  try simp only [zzA, zzB, zzC, Act.put, zzD, zzE, zzF]
  refine zzT (i := 9) (v := ?vd9) rfl (by kernel_rfl) (fun _ _ _ h => h) ?hd9 hH2d ?rd9
  case hd9 => (intro W h; (try dsimp only at h); go_simp; all_goals (with_reducible rfl))
  try simp only [zzA, zzB, zzC, Act.put, zzD, zzE, zzF]
  refine wpAnyH_done (by kernel_rfl) ?_ _
  go_wp2
  go_ret
  refine ⟨rfl, ?_⟩
  rw [HSt.out]
  exact back2 H2.out.drop
 have e0 : decide (ask = 0) = false := by simpa using h0
 have e1 : decide (ask = 1) = false := by simpa using h1
 have HSt : Hid (stepB most L (ask, k, r0, r1, r2, r3) W = W) := Lib.hid (by unfold stepB; rw [if_neg h0, if_neg h1])
 rw [HSt.out]
 obtain ⟨A, hA⟩ : ∃ A, overT W L = A := ⟨_, rfl⟩
 obtain ⟨⟨g0, g1, g2, g3⟩, hgr⟩ : ∃ g, getR k A = g := ⟨_, rfl⟩
 obtain ⟨pe, hpe⟩ : ∃ pe, getE k A = pe := ⟨_, rfl⟩
 have hq := Rw.eqlRow g0 g1 g2 g3 g0 g1 g2 g3 true (by simp)
 have kd : (pe == pe) = true := by simp
 have kd2 : decide (pe = pe) = true := by simp
 rw [hA] at HB hM ⊢
 have hp := own_bufGet k HB.out
 rw [hA, hgr, hpe] at hp
 simp only [rowW] at hp
 have HP := Lib.hid hp
 have HG : Hid (∀ (Y : List Rs) V, Own B w0 Y V → DocR rt most A ∈ Y → Calls Tryz.prog 41 #[ptrV rt, .string ⟨k.toArray⟩] V fun e V2 => e = .returned (.tuple #[.agg #[.int .i64 g0, .int .i64 g1, .int .i64 g2, .int .i64 g3], .int .i64 pe]) ∧ Below V.heap.size V V2) := Lib.hid (fun Y V h hm => by
  have := own_docGet k hM h hm
  rw [hgr, hpe] at this
  exact this)
 clear h sW sL okL hM hb hpe hp hx hW hgr hA
 go_enter Tryz.func16, Tryz.ntmps16
 go_wp2_with (go_at_call 28; refine HP.out.mono ?_; rintro e V1 ⟨rfl, hb⟩; have H1 := Lib.hid (own_newRow (HB.out.later hb) (g0, g1, g2, g3) 41); clear hb)
 try simp only [hP, hW3]
 have hX0 := H1.out.perm (List.Perm.cons _ (List.perm_middle (l₁ := [_, _])))
 obtain ⟨VX, hVX⟩ : ∃ VX, V1.alloc (.cells #[.int .i64 g0, .int .i64 g1, .int .i64 g2, .int .i64 g3] 41) = VX := ⟨_, rfl⟩
 rw [hVX] at hX0
 obtain ⟨Px, hPx⟩ : ∃ Px, V1.heap.size = Px := ⟨_, rfl⟩
 rw [hPx] at hX0
 have HX : Hid (Own B w0 (CellsR Px (r4V (g0, g1, g2, g3)) :: CellsR P (opV (ask, k, r0, r1, r2, r3)) :: BufR bb tb W :: TabR tb most o L :: NoteR s rt W :: DocR rt most A :: X) VX) := Lib.hid hX0
 try simp only [hPx, hVX]
 clear hX0 hVX hPx c0 c1 c2 c3 c4 c5 H1
 refine wp_region_held_drew (S := (fun V => V.cell? ⟨s, 0, none⟩ = some (ptrV rt) ∧ V.cell? ⟨P, 1, none⟩ = some (.string ⟨k.toArray⟩))) (by kernel_rfl) ⟨(own_noteM (HX.out.later (below_drewN _ 1)) (s := s) (rt := rt) (W := W) (by simp)).1, (HC.out _ _ (HX.out.later (below_drewN _ 1)) (by simp)).2.1⟩ (fun hH0g => ?_)
 refine zzT (i := 0) (v := ?vg0) rfl (by kernel_rfl) (fun _ _ _ h => h) ?hg0 hH0g ?rg0
 case hg0 => (intro W h; (try dsimp only at h); go_simp; all_goals (with_reducible rfl))
 try simp only [zzA, zzB, zzC, Act.put, zzD, zzE, zzF]
 refine zzT (i := 1) (v := ?vg1) rfl (by kernel_rfl) (fun _ _ _ h => h) ?hg1 hH0g ?rg1
 case hg1 => (intro W h; (try dsimp only at h); go_simp; all_goals (with_reducible rfl))
 try simp only [zzA, zzB, zzC, Act.put, zzD, zzE, zzF]
 refine zzT (i := 2) (v := ?vg2) rfl (by kernel_rfl) (fun _ _ _ h => h) ?hg2 hH0g ?rg2
 case hg2 => (intro W h; (try dsimp only at h); go_simp; all_goals (with_reducible rfl))
 try simp only [zzA, zzB, zzC, Act.put, zzD, zzE, zzF]
 refine zzT (i := 3) (v := ?vg3) rfl (by kernel_rfl) (fun _ _ _ h => h) ?hg3 hH0g ?rg3
 case hg3 => (intro W h; (try dsimp only at h); go_simp; all_goals (with_reducible rfl))
 try simp only [zzA, zzB, zzC, Act.put, zzD, zzE, zzF]
 refine zzT (i := 4) (v := ?vg4) rfl (by kernel_rfl) (fun _ _ _ h => h) ?hg4 hH0g ?rg4
 case hg4 => (intro W h; (try dsimp only at h); go_simp; all_goals (with_reducible rfl))
 try simp only [zzA, zzB, zzC, Act.put, zzD, zzE, zzF]
 refine zzT (i := 5) (v := ?vg5) rfl (by kernel_rfl) (fun _ _ _ h => h) ?hg5 hH0g ?rg5
 case hg5 => (intro W h; (try dsimp only at h); go_simp; all_goals (with_reducible rfl))
 try simp only [zzA, zzB, zzC, Act.put, zzD, zzE, zzF]
 refine wpAnyH_ready (rs := [6, 10]) (by kernel_rfl) (by simp) ?_
 refine AllReadyH.cons rfl (fun K hK => ?_) (AllReadyH.cons rfl (fun K hK => ?_) AllReadyH.nil)
 ·simp only [List.getElem_toArray, List.getElem_cons_succ, List.getElem_cons_zero]
  go_simp
  (go_at_call 41; refine (HG.out _ _ (HX.out.later (below_drewN _ 1)) (by simp)).mono ?_; rintro e V5 ⟨rfl, hb⟩; have H5 := Lib.hid ((HX.out.later (below_drewN _ 1)).later hb); clear hb)
  refine hK.out _ _ (⟨(own_noteM H5.out (s := s) (rt := rt) (W := W) (by simp)).1, (HC.out _ _ H5.out (by simp)).2.1⟩) (fun hH1g => ?_)
  clear hK K hH0g
  try simp only [zzA, zzB, zzC, Act.put, zzD, zzE, zzF]
  refine zzT (i := 7) (v := ?vga7) rfl (by kernel_rfl) (fun _ _ _ h => h) ?hga7 hH1g ?rga7
  case hga7 => (intro W h; (try dsimp only at h); go_simp; all_goals (with_reducible rfl))
  try simp only [zzA, zzB, zzC, Act.put, zzD, zzE, zzF]
  refine zzT (i := 8) (v := ?vga8) rfl (by kernel_rfl) (fun _ _ _ h => h) ?hga8 hH1g ?rga8
  case hga8 => (intro W h; (try dsimp only at h); go_simp; all_goals (with_reducible rfl))
  try simp only [zzA, zzB, zzC, Act.put, zzD, zzE, zzF]
  refine zzT (i := 9) (v := ?vga9) rfl (by kernel_rfl) (fun _ _ _ h => h) ?hga9 hH1g ?rga9
  case hga9 => (intro W h; (try dsimp only at h); go_simp; all_goals (with_reducible rfl))
  try simp only [zzA, zzB, zzC, Act.put, zzD, zzE, zzF]
  refine wpAnyH_ready (rs := [10]) (by kernel_rfl) (by simp) ?_
  refine AllReadyH.cons rfl (fun K hK => ?_) AllReadyH.nil
  simp only [zzA, zzB, zzC]
  go_simp
  have h3 := own_newRow H5.out zr 41
  obtain ⟨V6, hV6⟩ : ∃ V6, V5.alloc (.cells #[.int .i64 0, .int .i64 0, .int .i64 0, .int .i64 0] 41) = V6 := ⟨_, rfl⟩
  have H6 : Hid (Own B w0 (CellsR V5.heap.size (r4V zr) :: CellsR Px (r4V (g0, g1, g2, g3)) :: CellsR P (opV (ask, k, r0, r1, r2, r3)) :: BufR bb tb W :: TabR tb most o L :: NoteR s rt W :: DocR rt most A :: X) V6) := Lib.hid (by rw [← hV6]; exact h3)
  rw [hV6]
  obtain ⟨Py, hPy⟩ : ∃ Py, V5.heap.size = Py := ⟨_, rfl⟩
  rw [hPy] at H6 ⊢
  clear hPy h3 hV6
  have hv := own_zeroM (r := Py) H6.out (by simp)
  have f0 := (hv 0 (by omega)).1
  have k0 := (hv 0 (by omega)).2
  have f1 := (hv 1 (by omega)).1
  have k1 := (hv 1 (by omega)).2
  have f2 := (hv 2 (by omega)).1
  have k2 := (hv 2 (by omega)).2
  have f3 := (hv 3 (by omega)).1
  have k3 := (hv 3 (by omega)).2
  clear hv
  refine hK.out _ _ (⟨(own_noteM H6.out (s := s) (rt := rt) (W := W) (by simp)).1, (HC.out _ _ H6.out (by simp)).2.1⟩) (fun hH2g => ?_)
  clear hK K hH1g
  try simp only [zzA, zzB, zzC, Act.put, zzD, zzE, zzF]
  refine wpAnyH_ready (rs := [11]) (by kernel_rfl) (by simp) ?_
  refine AllReadyH.cons rfl (fun K hK => ?_) AllReadyH.nil
  simp only [zzA, zzB, zzC]
  go_simp
  have h4 := own_cellSet (own_cellSet (own_cellSet (own_cellSet H6.out (i := 0) (by simp [r4V]) (.int .i64 g0)) (i := 1) (by simp [r4V]) (.int .i64 g1)) (i := 2) (by simp [r4V]) (.int .i64 g2)) (i := 3) (by simp [r4V]) (.int .i64 g3)
  obtain ⟨V7, hV7⟩ : ∃ V7, (((V6.setCell ⟨Py, 0, none⟩ (.int .i64 g0)).setCell ⟨Py, 1, none⟩ (.int .i64 g1)).setCell ⟨Py, 2, none⟩ (.int .i64 g2)).setCell ⟨Py, 3, none⟩ (.int .i64 g3) = V7 := ⟨_, rfl⟩
  rw [hV7] at h4 ⊢
  have H7 : Hid (Own B w0 (CellsR Py (r4V (g0, g1, g2, g3)) :: CellsR Px (r4V (g0, g1, g2, g3)) :: CellsR P (opV (ask, k, r0, r1, r2, r3)) :: BufR bb tb W :: TabR tb most o L :: NoteR s rt W :: DocR rt most A :: X) V7) := Lib.hid h4
  clear h4 hV7 f0 f1 f2 f3 k0 k1 k2 k3
  refine hK.out _ _ (⟨(own_noteM H7.out (s := s) (rt := rt) (W := W) (by simp)).1, (HC.out _ _ H7.out (by simp)).2.1⟩) (fun hH3g => ?_)
  clear hK K hH2g
  try simp only [zzA, zzB, zzC, Act.put, zzD, zzE, zzF]
  refine zzT (i := 12) (v := ?vga12) rfl (by kernel_rfl) (fun _ _ _ h => h) ?hga12 hH3g ?rga12
  case hga12 => (intro W h; (try dsimp only at h); go_simp; all_goals (with_reducible rfl))
  try simp only [zzA, zzB, zzC, Act.put, zzD, zzE, zzF]
  refine wpAnyH_done (by kernel_rfl) ?_ _
  obtain ⟨n0, n1, n2, n3⟩ := own_rowM (p := Px) (r := (g0, g1, g2, g3)) H7.out (List.mem_cons_of_mem _ (List.mem_cons_self ..))
  obtain ⟨m0, m1, m2, m3⟩ := own_rowM (p := Py) (r := (g0, g1, g2, g3)) H7.out (by simp)
  go_wp2
  go_ret
  exact ⟨rfl, H7.out.drop.drop.drop⟩
 ·simp only [List.getElem_toArray, List.getElem_cons_succ, List.getElem_cons_zero]
  go_simp
  have h3 := own_newRow (HX.out.later (below_drewN _ 1)) zr 41
  obtain ⟨V5, hV5⟩ : ∃ V5, (VX.drewN 1).alloc (.cells #[.int .i64 0, .int .i64 0, .int .i64 0, .int .i64 0] 41) = V5 := ⟨_, rfl⟩
  have H5 : Hid (Own B w0 (CellsR VX.heap.size (r4V zr) :: CellsR Px (r4V (g0, g1, g2, g3)) :: CellsR P (opV (ask, k, r0, r1, r2, r3)) :: BufR bb tb W :: TabR tb most o L :: NoteR s rt W :: DocR rt most A :: X) V5) := Lib.hid (by rw [← hV5]; exact h3)
  rw [show (VX.alloc (.cells #[.int .i64 0, .int .i64 0, .int .i64 0, .int .i64 0] 41)).drew = V5 from hV5]
  obtain ⟨Py, hPy⟩ : ∃ Py, VX.heap.size = Py := ⟨_, rfl⟩
  rw [hPy] at H5 ⊢
  clear hPy h3 hV5
  refine hK.out _ _ (⟨(own_noteM H5.out (s := s) (rt := rt) (W := W) (by simp)).1, (HC.out _ _ H5.out (by simp)).2.1⟩) (fun hH1g => ?_)
  clear hK K hH0g
  try simp only [zzA, zzB, zzC, Act.put, zzD, zzE, zzF]
  refine wpAnyH_ready (rs := [6]) (by kernel_rfl) (by simp) ?_
  refine AllReadyH.cons rfl (fun K hK => ?_) AllReadyH.nil
  simp only [zzA, zzB, zzC]
  go_simp
  (go_at_call 41; refine (HG.out _ _ H5.out (by simp)).mono ?_; rintro e V6 ⟨rfl, hb⟩; have H6 := Lib.hid (H5.out.later hb); clear hb)
  have hv := own_zeroM (r := Py) H6.out (by simp)
  have f0 := (hv 0 (by omega)).1
  have k0 := (hv 0 (by omega)).2
  have f1 := (hv 1 (by omega)).1
  have k1 := (hv 1 (by omega)).2
  have f2 := (hv 2 (by omega)).1
  have k2 := (hv 2 (by omega)).2
  have f3 := (hv 3 (by omega)).1
  have k3 := (hv 3 (by omega)).2
  clear hv
  refine hK.out _ _ (⟨(own_noteM H6.out (s := s) (rt := rt) (W := W) (by simp)).1, (HC.out _ _ H6.out (by simp)).2.1⟩) (fun hH2g => ?_)
  clear hK K hH1g
  try simp only [zzA, zzB, zzC, Act.put, zzD, zzE, zzF]
  refine zzT (i := 7) (v := ?vgb7) rfl (by kernel_rfl) (fun _ _ _ h => h) ?hgb7 hH2g ?rgb7
  case hgb7 => (intro W h; (try dsimp only at h); go_simp; all_goals (with_reducible rfl))
  try simp only [zzA, zzB, zzC, Act.put, zzD, zzE, zzF]
  refine zzT (i := 8) (v := ?vgb8) rfl (by kernel_rfl) (fun _ _ _ h => h) ?hgb8 hH2g ?rgb8
  case hgb8 => (intro W h; (try dsimp only at h); go_simp; all_goals (with_reducible rfl))
  try simp only [zzA, zzB, zzC, Act.put, zzD, zzE, zzF]
  refine zzT (i := 9) (v := ?vgb9) rfl (by kernel_rfl) (fun _ _ _ h => h) ?hgb9 hH2g ?rgb9
  case hgb9 => (intro W h; (try dsimp only at h); go_simp; all_goals (with_reducible rfl))
  try simp only [zzA, zzB, zzC, Act.put, zzD, zzE, zzF]
  refine wpAnyH_ready (rs := [11]) (by kernel_rfl) (by simp) ?_
  refine AllReadyH.cons rfl (fun K hK => ?_) AllReadyH.nil
  simp only [zzA, zzB, zzC]
  go_simp
  have h4 := own_cellSet (own_cellSet (own_cellSet (own_cellSet H6.out (i := 0) (by simp [r4V]) (.int .i64 g0)) (i := 1) (by simp [r4V]) (.int .i64 g1)) (i := 2) (by simp [r4V]) (.int .i64 g2)) (i := 3) (by simp [r4V]) (.int .i64 g3)
  obtain ⟨V7, hV7⟩ : ∃ V7, (((V6.setCell ⟨Py, 0, none⟩ (.int .i64 g0)).setCell ⟨Py, 1, none⟩ (.int .i64 g1)).setCell ⟨Py, 2, none⟩ (.int .i64 g2)).setCell ⟨Py, 3, none⟩ (.int .i64 g3) = V7 := ⟨_, rfl⟩
  rw [hV7] at h4 ⊢
  have H7 : Hid (Own B w0 (CellsR Py (r4V (g0, g1, g2, g3)) :: CellsR Px (r4V (g0, g1, g2, g3)) :: CellsR P (opV (ask, k, r0, r1, r2, r3)) :: BufR bb tb W :: TabR tb most o L :: NoteR s rt W :: DocR rt most A :: X) V7) := Lib.hid h4
  clear h4 hV7 f0 f1 f2 f3 k0 k1 k2 k3
  refine hK.out _ _ (⟨(own_noteM H7.out (s := s) (rt := rt) (W := W) (by simp)).1, (HC.out _ _ H7.out (by simp)).2.1⟩) (fun hH3g => ?_)
  clear hK K hH2g
  try simp only [zzA, zzB, zzC, Act.put, zzD, zzE, zzF]
  refine zzT (i := 12) (v := ?vgb12) rfl (by kernel_rfl) (fun _ _ _ h => h) ?hgb12 hH3g ?rgb12
  case hgb12 => (intro W h; (try dsimp only at h); go_simp; all_goals (with_reducible rfl))
  try simp only [zzA, zzB, zzC, Act.put, zzD, zzE, zzF]
  refine wpAnyH_done (by kernel_rfl) ?_ _
  obtain ⟨n0, n1, n2, n3⟩ := own_rowM (p := Px) (r := (g0, g1, g2, g3)) H7.out (List.mem_cons_of_mem _ (List.mem_cons_self ..))
  obtain ⟨m0, m1, m2, m3⟩ := own_rowM (p := Py) (r := (g0, g1, g2, g3)) H7.out (by simp)
  go_wp2
  go_ret
  exact ⟨rfl, H7.out.drop.drop.drop⟩
end
end Bf
end Go.Proofs.YtecnijnmgdfdhaaGreat
