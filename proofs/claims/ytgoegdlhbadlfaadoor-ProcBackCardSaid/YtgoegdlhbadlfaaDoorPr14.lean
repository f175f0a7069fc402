/- Package proc: Parse. -/
import Derived.Test.YtgoegdlhbadlfaaDoorPr13
import Derived.WalkMore
import Derived.Control
import Derived.BigQuiet
namespace Go.Proofs.YtgoegdlhbadlfaaDoor
namespace Pc
open Go.RowKit
attribute [local go_sem] Oper.semAt_some
theorem wpIn_scope_wide {P : Program} {n : Nat} {Q : Exit → Act → World → Prop} {a : Act} {w : World} {c : Code} (h : c.wpIn Fence.wide n P (Exit.noGoto Q) a w) : (Code.scope c).wpIn Fence.wide n P Q a w := wpIn_wide.2 (wp_scope_straight (wpIn_wide.1 h))
theorem wpIn_label_wide {P : Program} {n : Nat} {Q : Exit → Act → World → Prop} {a : Act} {w : World} {l : Nat} (h : Q .normal a w) : (Code.label l).wpIn Fence.wide n P Q a w := wpIn_wide.2 (wp_label h)
theorem infoOp : (Tryd.prog.info? 28).map (fun i => (i.zero, i.size, i.bytes)) = some (some (.agg #[.int .i64 0, .int .i64 0, .int .i64 0, .int .i64 0, .int .i64 0]), 5, 40) := by kernel_rfl
/-- The first line that is none. -/
def badG : List (Nat × Str) → Option Nat
  | [] => none
  | x :: l => if (parseP x.2).isSome = true then badG l else some x.1
def opsG (l : List (Nat × Str)) : List OpP := l.map fun x => (parseP x.2).getD zeroP
/-- What Parse answers. -/
def resP (s : Str) : List OpP × Int × Int := match badG (linesP 1 s) with
  | some n => ([], n, 11)
  | none => if checkP (opsG (linesP 1 s)) = 0 then (opsG (linesP 1 s), 0, 0) else ([], 0, checkP (opsG (linesP 1 s)))
theorem slLow {w w' : World} {size : Nat} {F : Foot} {a : Option Addr} {n c : Nat} {xs : List Value} (h : Sl w size F a n c xs) (hb : Below w.heap.size w w') : Sl w' size F a n c xs := h.fr (Fr.ofBelow hb noCells) (fun _ _ _ h => h)
theorem liesLow {w w' : World} {F : Foot} (h : Lies w F) (hb : Below w.heap.size w w') : Lies w' F := h.later (Fr.ofBelow hb noCells)
theorem opsG_snoc (pre : List (Nat × Str)) (x : Nat × Str) {op : OpP} (h : parseP x.2 = some op) : opsV (opsG pre) ++ opV op = opsV (opsG (pre ++ [x])) := by
  unfold opsG opsV
  rw [List.map_append, List.flatMap_append]
  simp [h]
theorem badG_app : ∀ (a b : List (Nat × Str)), badG (a ++ b) = (badG a).or (badG b)
  | [], b => by simp [badG]
  | x :: a, b => by
    rw [List.cons_append, badG, badG]
    split
    · exact badG_app a b
    · rfl
theorem badG_ge : ∀ {l : List (Nat × Str)} {n : Nat}, (∀ x ∈ l, 1 ≤ x.1) → badG l = some n → 1 ≤ n
  | [], _, _, h => by simp [badG] at h
  | x :: l, n, hx, h => by
    rw [badG] at h
    split at h
    · exact badG_ge (fun y hy => hx y (List.mem_cons_of_mem _ hy)) h
    · cases h
      exact hx x (List.mem_cons_self ..)
theorem linesG_len : ∀ (n k : Nat) (s : Str), (linesG n k s).length ≤ n
  | 0, _, _ => Nat.le_refl _
  | n + 1, k, s => by
    rw [linesG]
    split
    · simp
    · have := linesG_len n (k + 1) (s.drop (endP s))
      simp only [List.length_cons]; omega
theorem linesG_ge : ∀ (n k : Nat) (s : Str), ∀ x ∈ linesG n k s, k ≤ x.1 ∧ x.2.length ≤ s.length
  | 0, _, _, x, h => by simp [linesG] at h
  | n + 1, k, s, x, h => by
    rw [linesG] at h
    split at h
    · simp at h
    · rcases List.mem_cons.1 h with rfl | h
      · exact ⟨Nat.le_refl _, by simp only [List.length_take]; omega⟩
      · have := linesG_ge n (k + 1) _ x h
        rw [List.length_drop] at this
        exact ⟨by omega, by omega⟩
set_option maxHeartbeats 4000000 in
set_option maxRecDepth 100000 in
theorem parseAll_any (s : Str) (hs : s.length ≤ 1000000) (w : World) (hL : Laid w) :
    Calls Tryd.prog 8 #[.string ⟨s.toArray⟩] w fun e V => ∃ (a : Option Addr) (c : Nat), e = .returned (.tuple #[.slice a (resP s).1.length c, .int .i64 (resP s).2.1, .int .i64 (resP s).2.2]) ∧ Rd V 5 a (resP s).1.length c (opsV (resP s).1) ∧ Below w.heap.size w V := by
  obtain ⟨i0, hi, hz0, hz1, hz2⟩ := info_parts infoOp
  have hG := hL.size
  have HL := Lib.hid hL
  clear hL
  refine calls_marks Tryd.func8 rfl ?_
  simp only [Tryd.ntmps8, List.size_toArray, List.length_cons, List.length_nil, Nat.reduceAdd, Nat.reduceSub, Array.replicate_succ, Array.replicate_zero, List.push_toArray, List.append_toArray, List.nil_append, List.cons_append]
  gi_wp2
  refine wpIn_scope_wide ?_
  gi_wp2
  refine wpIn_label_wide ?_
  gi_wp2_with (refine ⟨trivial, ?_⟩; gi_at_call 17; refine (callsIn_wide.2 (lines_any s _)).mono ?_; rintro e V2 ⟨rfl, hV2⟩)
  obtain ⟨u, hu⟩ : ∃ u, w.heap.size = u := ⟨_, rfl⟩
  have HV := Lib.hid hu
  have HW : Hid (V2.heap.size = u + 3 ∧ V2.cell? ⟨u, 0, none⟩ = some (.slice none 0 0) ∧ V2.frozen? ⟨u, 0, none⟩ = false ∧ V2.cell? ⟨u + 1, 0, none⟩ = some (.int .i64 0) ∧ V2.frozen? ⟨u + 1, 0, none⟩ = false ∧ V2.cell? ⟨u + 2, 0, none⟩ = some (.string ⟨s.toArray⟩) ∧ Below w.heap.size w V2) := Lib.hid (by
    rw [← hV2, ← hu]
    obtain ⟨A, hA⟩ : ∃ A, w.alloc (.cells #[.slice none 0 0] 22) = A := ⟨_, rfl⟩
    have hA0 : A.cell? ⟨w.heap.size, 0, none⟩ = some (.slice none 0 0) ∧ A.frozen? ⟨w.heap.size, 0, none⟩ = false ∧ A.heap.size = w.heap.size + 1 ∧ Below w.heap.size w A := by
      rw [← hA]; exact ⟨by simp, by simp, by simp, al1 _ _⟩
    rw [hA]
    obtain ⟨B, hB⟩ : ∃ B, A.alloc (.cells #[.int .i64 0] 3) = B := ⟨_, rfl⟩
    have hB0 : B.cell? ⟨w.heap.size + 1, 0, none⟩ = some (.int .i64 0) ∧ B.frozen? ⟨w.heap.size + 1, 0, none⟩ = false ∧ B.heap.size = w.heap.size + 2 ∧ Below A.heap.size A B := by
      rw [← hB, ← hA0.2.2.1]; exact ⟨by simp, by simp, by simp; omega, al1 _ _⟩
    rw [hB]
    obtain ⟨C, hC⟩ : ∃ C, B.alloc (.cells #[.string ⟨s.toArray⟩] 9) = C := ⟨_, rfl⟩
    have hC0 : C.cell? ⟨w.heap.size + 2, 0, none⟩ = some (.string ⟨s.toArray⟩) ∧ C.heap.size = w.heap.size + 3 ∧ Below B.heap.size B C := by
      rw [← hC, ← hB0.2.2.1]; exact ⟨by simp, by simp; omega, al1 _ _⟩
    rw [hC]
    obtain ⟨a1, a2, a3, a4⟩ := hA0
    obtain ⟨b1, b2, b3, b4⟩ := hB0
    obtain ⟨c1, c2, c3⟩ := hC0
    exact ⟨c2, old_cell (old_cell a1 b4) c3, (c3.frozen (p := ⟨w.heap.size, 0, none⟩) (by show w.heap.size < B.heap.size; omega)).trans ((b4.frozen (p := ⟨w.heap.size, 0, none⟩) (by show w.heap.size < A.heap.size; omega)).trans a2), old_cell b1 c3, (c3.frozen (p := ⟨w.heap.size + 1, 0, none⟩) (by show w.heap.size + 1 < B.heap.size; omega)).trans b2, c1,
      a4.trans ((b4.mono (by omega)).trans (c3.mono (by omega)))⟩)
  have HLV : Hid (Laid V2) := Lib.hid (HL.out.later HW.out.2.2.2.2.2.2 hG)
  obtain ⟨xs, hxs⟩ : ∃ xs, linesP 1 s = xs := ⟨_, rfl⟩
  have HXS := Lib.hid hxs
  have HM : Hid (∀ x ∈ xs, 1 ≤ x.1 ∧ x.2.length ≤ 1000000) := Lib.hid (fun x hx => by
    rw [← hxs] at hx
    have := linesG_ge _ _ _ x hx
    exact ⟨this.1, by omega⟩)
  have HN : Hid (xs.length ≤ 1000000) := Lib.hid (by
    rw [← hxs]; exact Nat.le_trans (linesG_len _ _ _) hs)
  rw [hu]
  clear hu hV2 hxs
  refine wpIn_range_tells (by omega) (gf := 25) (lb := #[.pointer (some ⟨u + 2, 0, none⟩)]) rfl (enters_any Tryd.func25 (by kernel_rfl) rfl) (encs := lnE) (stops := True) (xs := xs)
    (R := fun k => k = u + 2) (K0 := fun _ => False) (fun o1 o2 => ?seq) (fun x => rfl) (fun k hk => by rw [hk, HW.out.1]; omega) (fun k hk => hk.elim)
    (fun K pre W' => badG pre = none ∧ Coll2 5 (fun l => opsV (opsG l)) V2 u (fun _ => False) K pre W') (fun cd K tl W' => cd = .exit 0 ∧ ∃ n, badG tl = some n ∧ W'.cell? ⟨u + 1, 0, none⟩ = some (.int .i64 n) ∧ Fr (fun k _ => k = u ∨ k = u + 1) V2 W' ∧ ∀ k, K k → V2.heap.size ≤ k ∧ k < W'.heap.size)
    ?clos1 ?clos2 (.inl trivial) ⟨rfl, Coll2.start rfl HW.out.2.1 HW.out.2.2.1⟩
    (fun x => { tmps := #[.string ⟨s.toArray⟩, undef, .slice none 0 0, .int .i64 0, .int .i64 0, .pointer (some ⟨u, 0, none⟩), .pointer (some ⟨u + 1, 0, none⟩), .int .i64 x.1, .string ⟨x.2.toArray⟩, undef, undef, undef, .string ⟨s.toArray⟩, .func (.func 25) #[] #[.pointer (some ⟨u + 2, 0, none⟩)], .int .i64 x.1, .string ⟨x.2.toArray⟩, undef, undef, undef, undef, undef, undef, undef, undef, undef, undef, undef, undef, undef, undef, undef, undef, undef, undef, undef, undef, undef], defers := [] }) ?assign ?body ?done ?stop
  case clos1 =>
    intro K K' pre W1 W2 ⟨h1, h2⟩ hf hK
    exact ⟨h1, Coll2.clos (by rw [HW.out.1]; omega) (fun h => h) (fun k e => e.elim) K K' pre W1 W2 h2 hf hK⟩
  case clos2 =>
    intro cd K K' tl W1 W2 ⟨h0, n, h1, h2, h3, h4⟩ hf hK
    have hz := HW.out.1
    have hs1 := h3.size
    have nK : ¬ K (u + 1) := fun h => by have := (h4 _ h).1; omega
    refine ⟨h0, n, h1, cell_fr hf h2 nK, h3.trans hf (fun b o hb => .inr (h4 b hb).1), fun k hk => ?_⟩
    have := hf.size
    rcases hK k hk with h | h
    · have := h4 k h; omega
    · omega
  case seq =>
    have hbo : Below V2.heap.size V2 ((V2.alloc o1).alloc o2) := (al1 V2 o1).trans ((al1 (V2.alloc o1) o2).mono (by simp))
    rw [← HXS.out]
    exact lines1_tells (u + 2) s hs _ _ (old_cell HW.out.2.2.2.2.2.1 hbo)
  case assign =>
    intro l' x W2 K1 hK1
    simp only [lnE]
    gi_wp2
    exact hK1
  case body =>
    rintro l' K pre x post W2 hx _ ⟨hgood, F, a, cc, h1, h2, h3, h4, h5, h6, h7⟩
    have hz := HW.out.1
    have hs2 := h6.size
    have y1 : W2.cell? ⟨u + 1, 0, none⟩ = some (.int .i64 0) := cell_fr h6 HW.out.2.2.2.1 (by rintro (e | e); exact absurd e (by omega); exact e)
    have y2 : W2.frozen? ⟨u + 1, 0, none⟩ = false := (h6.froz (u + 1) 0 (by omega) (by rintro (e | e); exact absurd e (by omega); exact e)).trans HW.out.2.2.2.2.1
    have hxm : x ∈ xs := by rw [hx]; simp
    have hlow : Below w.heap.size w W2 := HW.out.2.2.2.2.2.2.trans (h6.below (B := w.heap.size) HW.out.2.2.2.2.2.2.size (fun k x hk => by rcases hk with rfl | hk; exact Nat.le_of_eq HV.out; exact hk.elim))
    have HP := Lib.hid (parse_any x.2 (HM.out x hxm).2 W2 (HL.out.later hlow hG))
    have hn : pre.length + 1 ≤ 1000000 := by
      have := HN.out
      rw [hx] at this
      simp at this
      omega
    obtain ⟨j, hj⟩ : ∃ j, pre.length = j := ⟨_, rfl⟩
    have HJ := Lib.hid hj
    have HS := Lib.hid (And.intro h1 (And.intro h2 (And.intro h3 (And.intro h6 h7))))
    have HG := Lib.hid hgood
    have HX := Lib.hid hx
    rw [hj] at h4 hn
    clear h1 h2 h3 h6 h7 hx hj hgood hlow hxm
    cases hp : parseP x.2 with
    | none =>
      rw [hp, show ansP none = .tuple #[.agg #[.int .i64 0, .int .i64 0, .int .i64 0, .int .i64 0, .int .i64 0], .bool false] from rfl] at HP
      have HQ := Lib.hid hp
      clear hp
      gi_wp2_with (refine ⟨trivial, ?_⟩; gi_at_call 18; refine (calls_round l' HP.out).mono ?_; rintro e V3 ⟨rfl, hb⟩; have H3 := Lib.hid hb; have z1 := old_cell y1 hb; have z2 : V3.frozen? ⟨u + 1, 0, none⟩ = false := (hb.frozen (p := ⟨u + 1, 0, none⟩) (by show u + 1 < W2.heap.size; omega)).trans y2; have hl3 := hb.size; have z3 := old_cell z1 (al1 V3 (.cells #[.int .i64 0, .int .i64 0, .int .i64 0, .int .i64 0, .int .i64 0] 28)); have z4 : (V3.alloc (.cells #[.int .i64 0, .int .i64 0, .int .i64 0, .int .i64 0, .int .i64 0] 28)).frozen? ⟨u + 1, 0, none⟩ = false := ((al1 V3 _).frozen (p := ⟨u + 1, 0, none⟩) (by show u + 1 < V3.heap.size; omega)).trans z2; clear hb z1 z2)
      obtain ⟨h1, h2, h3, h6, h7⟩ := HS.out
      have hbA := H3.out.trans ((al1 V3 (.cells #[.int .i64 0, .int .i64 0, .int .i64 0, .int .i64 0, .int .i64 0] 28)).mono hl3)
      have f1 := Fr.ofBelow hbA noCells
      have hset := fr_own' (V3.alloc (.cells #[.int .i64 0, .int .i64 0, .int .i64 0, .int .i64 0, .int .i64 0] 28)) (u + 1) (.int .i64 x.1)
      have nK : ¬ K (u + 1) := fun h => (h7 _ h).elim id (fun h => by omega)
      refine ⟨(f1.mono (fun _ _ h => h.elim)).trans hset (fun b o h => .inl ?_), rfl, x.1, ?_, World.cell?_setCell_same' _ _ _ (by rw [z3]; rfl), ((h6.mono (fun k o h => h.elim .inl False.elim)).trans f1 (fun _ _ h => h.elim)).trans hset (fun b o h => .inl (.inr h.1)), fun k hk => ?_⟩
      · obtain ⟨rfl, _⟩ := h
        exact ⟨nK, by omega⟩
      · rw [badG_app, HG.out, badG, HQ.out]; rfl
      · have h8 := (h7 k hk).resolve_left id
        have := hbA.size
        rw [World.size_setCell]
        omega
    | some op =>
      obtain ⟨d, a1, b1, c1, n1⟩ := op
      rw [hp, show ansP (some (d, a1, b1, c1, n1)) = .tuple #[.agg #[.int .i64 d, .int .i64 a1, .int .i64 b1, .int .i64 c1, .int .i64 n1], .bool true] from rfl] at HP
      have HQ := Lib.hid hp
      clear hp
      gi_wp2_with (first
        | (refine ⟨trivial, ?_⟩; gi_at_call 18; refine (calls_round l' HP.out).mono ?_; rintro e V3 ⟨rfl, hb⟩; have H3 := Lib.hid hb; have z1 := old_cell h4 hb; have z2 : V3.frozen? ⟨u, 0, none⟩ = false := (hb.frozen (p := ⟨u, 0, none⟩) (by show u < W2.heap.size; omega)).trans h5; have hl3 := hb.size; have z3 := old_cell z1 (al1 V3 (.cells #[.int .i64 d, .int .i64 a1, .int .i64 b1, .int .i64 c1, .int .i64 n1] 28)); have z4 : (V3.alloc (.cells #[.int .i64 d, .int .i64 a1, .int .i64 b1, .int .i64 c1, .int .i64 n1] 28)).frozen? ⟨u, 0, none⟩ = false := ((al1 V3 _).frozen (p := ⟨u, 0, none⟩) (by show u < V3.heap.size; omega)).trans z2; clear hb z1 z2)
        | (gi_at_builtin; have hbA := Lib.hid ((H3.out.trans ((al1 V3 (.cells #[.int .i64 d, .int .i64 a1, .int .i64 b1, .int .i64 c1, .int .i64 n1] 28)).mono hl3)).trans ((al1 (V3.alloc (.cells #[.int .i64 d, .int .i64 a1, .int .i64 b1, .int .i64 c1, .int .i64 n1] 28)) (.cells #[.int .i64 d, .int .i64 a1, .int .i64 b1, .int .i64 c1, .int .i64 n1] 28)).mono (by simp; omega))); refine wpListIn_app_sl rfl (.tmp 24) (.tmp 26) 22 rfl 28 i0 _ 5 40 Tryd.underlying22 hi hz0 hz1 hz2 rfl (by decide) F a j cc (opsV (opsG pre)) rfl (by have := slLow HS.out.1 hbA.out; rwa [HJ.out] at this) (liesLow HS.out.2.1 hbA.out) (some ⟨V3.heap.size + 1, 0, none⟩) 1 1 (opV (d, a1, b1, c1, n1)) rfl (by have := Rd.made (V3.alloc (.cells #[.int .i64 d, .int .i64 a1, .int .i64 b1, .int .i64 c1, .int .i64 n1] 28)) (opV (d, a1, b1, c1, n1)) 28 5 1 rfl (by decide) (fun x hx => opsV_one [(d, a1, b1, c1, n1)] x (by simpa [opsV] using hx)) (0, 0); rw [World.size_alloc] at this; exact this) (j + 1) (opsV (opsG (pre ++ [x]))) rfl (opsG_snoc pre x HQ.out) (by unfold maxLen; omega) (by omega) ?_; intro a' c' W3 F' k1 k2 k3 k4; have H4 := Lib.hid (And.intro k1 (And.intro k2 (And.intro k3 k4))); obtain ⟨hc3, hf3⟩ := Coll2.after (by rw [HW.out.1]; omega) HS.out.2.2.1 h4 h5 hbA.out k2; clear k1 k2 k3 k4))
      have e : (pre ++ [x]).length = j + 1 := by simp [HJ.out]
      have hst := Coll2.step (V := fun l => opsV (opsG l)) (pre := pre) (x := x) (K0 := fun _ => False) (by rw [HW.out.1]; omega) (fun h => h) (fun k e => e.elim) HS.out.2.1 HS.out.2.2.1 HS.out.2.2.2.1 HS.out.2.2.2.2 hbA.out (by rw [e]; exact H4.out.1) H4.out.2.1 H4.out.2.2.1 H4.out.2.2.2 (by rw [h4]; rfl) h5 (fun k => k = u + 2) (fun k hk => by
        have := HW.out.1
        subst hk
        omega)
      rw [e] at hst
      refine ⟨hst.1, ?_, hst.2⟩
      rw [badG_app, HG.out, badG, HQ.out]; rfl
  case stop =>
    rintro D cd K pre' x' post' W3 hx ⟨rfl, n, hb, hc, hfr, hK⟩ _ hKD hsD hDef
    have hbad : badG xs = some n := by rw [hx, show pre' ++ x' :: post' = (pre' ++ [x']) ++ post' by simp, badG_app, hb]; rfl
    have hn1 : 1 ≤ n := badG_ge (fun x hx => (HM.out x hx).1) hbad
    have HR : Hid (resP s = ([], (n : Int), 11)) := Lib.hid (by unfold resP; rw [HXS.out, hbad])
    have hpos : (0 : Int) < (n : Int) := by omega
    clear hx hb hbad hn1
    gi_wp2
    refine wpIn_wide.2 ?_
    go_quiet (fail)
    gi_wp2
    (try rw [Exit.noGoto_ret])
    have hu := HV.out
    have hWs := HW.out.2.2.2.2.2.2.size
    have hfq : Fr (fun k _ => k = u ∨ k = u + 1) V2 (W3.drewN nq) := ⟨hfr.1, hfr.2, hfr.3, hfr.4, hfr.5, hfr.6, hfr.7⟩
    refine leave_marks [D] (W3.drewN nq) (by simp) (fun E hE => by simp at hE; subst hE; exact hDef) (fun W' hf => ?_)
    refine ⟨_, results_tmp3 rfl _ _ _, none, 0, by rw [HR.out]; rfl, by rw [HR.out]; exact Rd.nilSlice W' 5, HW.out.2.2.2.2.2.2.trans ?_⟩
    refine ((hfq.trans hf (fun b o hb => .inr ?_)).below (B := w.heap.size) hWs (fun k x hk => ?_))
    · simp at hb; subst hb; have := HW.out.1; omega
    · rcases hk with rfl | rfl <;> omega
  case done =>
    rintro D K W3 ⟨hgood, F, a, cc, h1, h2, h3, h4, h5, h6, h7⟩ _ hKD hsD hDef
    have hz := HW.out.1
    have y1 : W3.cell? ⟨u + 1, 0, none⟩ = some (.int .i64 0) := cell_fr h6 HW.out.2.2.2.1 (by rintro (e | e); exact absurd e (by omega); exact e)
    have hlow : Below w.heap.size w W3 := HW.out.2.2.2.2.2.2.trans (h6.below (B := w.heap.size) HW.out.2.2.2.2.2.2.size (fun k x hk => by rcases hk with rfl | hk; exact Nat.le_of_eq HV.out; exact hk.elim))
    obtain ⟨L, hLx⟩ : ∃ L, opsG xs = L := ⟨_, rfl⟩
    have hlen : xs.length = L.length := by rw [← hLx]; unfold opsG; simp
    rw [hlen] at h1 h4
    simp only [hLx] at h1
    have HC := Lib.hid (check_any L a cc W3 (HL.out.later hlow hG) h1.rd)
    have HR : Hid (resP s = if checkP L = 0 then (L, 0, 0) else ([], 0, checkP L)) := Lib.hid (by unfold resP; rw [HXS.out, hgood, hLx])
    have HS := Lib.hid (And.intro h1 (And.intro hlow (And.intro hsD hDef)))
    have HF3 := Lib.hid (show ∀ k o, F k o → k ≠ D from fun k o h e => (h3 k o h).2 (by rw [e]; exact hKD))
    have hDl : D < W3.heap.size := (Array.getElem?_eq_some_iff.1 hDef).1
    obtain ⟨er, her⟩ : ∃ er, checkP L = er := ⟨_, rfl⟩
    rw [her] at HC HR
    clear h1 h2 h3 h6 h7 hlow hgood hLx her hDef hsD
    by_cases h0 : er = 0
    · subst h0
      have HR2 : Hid (resP s = (L, 0, 0)) := Lib.hid (by rw [HR.out, if_pos rfl])
      gi_wp2_with (refine ⟨trivial, ?_⟩; gi_at_call 10; refine (callsIn_wide.2 HC.out).mono ?_; rintro e W4 ⟨rfl, hb⟩; have HB := Lib.hid hb; have z1 := old_cell h4 hb; clear hb)
      (try rw [Exit.noGoto_ret])
      refine leave_marks [D] W4 (by simp) (fun E hE => by simp at hE; subst hE; exact (HB.out.block _ hDl).trans HS.out.2.2.2) (fun W' hf => ?_)
      have hD2 := HS.out.2.2.1
      refine ⟨_, results_tmp3 rfl _ _ _, a, cc, by rw [HR2.out]; rfl, ?_, (HS.out.2.1.trans (HB.out.mono HS.out.2.1.size)).trans (hf.below (B := w.heap.size) (by have h8 := HS.out.2.1.size; have h9 := HB.out.size; omega) (fun k x hk => by simp at hk; subst hk; have h8 := HW.out.2.2.2.2.2.2.size; omega))⟩
      rw [HR2.out]
      exact ((slLow HS.out.1 HB.out).fr hf (fun b o hb hk => HF3.out b o hb (by simpa using hk))).rd
    · have HR2 : Hid (resP s = ([], 0, er)) := Lib.hid (by rw [HR.out, if_neg h0])
      gi_wp2_with (refine ⟨trivial, ?_⟩; gi_at_call 10; refine (callsIn_wide.2 HC.out).mono ?_; rintro e W4 ⟨rfl, hb⟩; have HB := Lib.hid hb; clear hb)
      (try rw [Exit.noGoto_ret])
      refine leave_marks [D] W4 (by simp) (fun E hE => by simp at hE; subst hE; exact (HB.out.block _ hDl).trans HS.out.2.2.2) (fun W' hf => ?_)
      have hD2 := HS.out.2.2.1
      refine ⟨_, results_tmp3 rfl _ _ _, none, 0, by rw [HR2.out]; rfl, by rw [HR2.out]; exact Rd.nilSlice W' 5, (HS.out.2.1.trans (HB.out.mono HS.out.2.1.size)).trans (hf.below (B := w.heap.size) (by have h8 := HS.out.2.1.size; have h9 := HB.out.size; omega) (fun k x hk => by simp at hk; subst hk; have h8 := HW.out.2.2.2.2.2.2.size; omega))⟩
end Pc
end Go.Proofs.YtgoegdlhbadlfaaDoor
