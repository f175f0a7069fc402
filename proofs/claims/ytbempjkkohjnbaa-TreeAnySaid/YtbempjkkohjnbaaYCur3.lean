/- Joined: Cur3, Cur4. -/
import Derived.Test.YtbempjkkohjnbaaYCur1
import Derived.Test.YtbempjkkohjnbaaYTreeF
import Derived.WalkMore
import Derived.Control
/- A cursor's pairs, told one by one; Scan. -/
namespace Go.Proofs.Ytbempjkkohjnbaa
open Go.RowKit Tr
open Ky (less)
attribute [local go_sem] Oper.semAt_some

set_option maxHeartbeats 400000 in
theorem pairsC_any (c : Nat) (f : Value) (hf : f = .func (.func 25) #[ptrV c] #[]) (w : World) :
    Calls Try.prog 47 #[f] w fun e V => e = .returned (.func (.func 59) #[] #[.pointer (some ⟨w.heap.size, 0, none⟩)]) ∧ w.alloc (.cells #[f] 46) = V := by
  subst hf
  go_enter Try.func47, Try.ntmps47
  go_wp2
  go_ret
  exact ⟨rfl, rfl⟩
/-- A cursor beside its tree, within a walk: it has told 'pre', and stands where 'rest' is what comes. -/
structure Goes (b o h : Nat) (g : G) (c Bn : Nat) (s t : Str) (R : Nat → Prop) (J : (Nat → Prop) → List Pr → World → Prop) (K : Nat → Prop) (pre rest : List Pr) (wr : World) : Prop where
  j : J K pre wr
  kc : K c
  tr : TreeAt wr b o h g
  cb : wr.cell? ⟨Bn, 0, none⟩ = some (.func (.func 25) #[ptrV c] #[])
  at_ : ∃ a, CurAt wr c b s t a ∧ rest = Tr.rng a t (flat h g)
def cFrame (l Bn : Nat) (a : Act) : Prop := ∃ u2 u3 u4 u5 u6 u7 u8 u9 u10 u11 u12 u13 u14 u15 u16 u17 u18 u19 u20 : Value, a = { tmps := #[(.func (.yield l) #[] #[]), (.pointer (some ⟨Bn, 0, none⟩)), u2, u3, u4, u5, u6, u7, u8, u9, u10, u11, u12, u13, u14, u15, u16, u17, u18, u19, u20], defers := [] }
set_option maxHeartbeats 4000000 in
set_option maxRecDepth 100000 in
theorem pairs1_tells (b o h : Nat) (g : G) (c Bn : Nat) (s t a0 : Str) (R : Nat → Prop) (W : World) (hT : TreeAt W b o h g) (hkey : ∀ p ∈ flat h g, p.1.length ≤ 1000) (hC : CurAt W c b s t a0) (hB : W.cell? ⟨Bn, 0, none⟩ = some (.func (.func 25) #[ptrV c] #[]))
    (hRt : ∀ k x, treeF b h g k x → R k) (hRB : R Bn) (hcB : c ≠ Bn) (hct : ∀ x, ¬ treeF b h g c x) :
    Tells True Try.prog 59 #[.pointer (some ⟨Bn, 0, none⟩)] prE (Tr.rng a0 t (flat h g)) R (fun k => k = c) W := by
  intro l J Jx hst hJ hJx hY h0
  clear hst
  refine calls_marks Try.func59 rfl ?_
  simp only [Try.ntmps59, List.size_toArray, List.length_cons, List.length_nil, Nat.reduceAdd, Nat.reduceSub, Array.replicate_succ, Array.replicate_zero, List.push_toArray, List.append_toArray, List.nil_append, List.cons_append]
  obtain ⟨xs, hxs⟩ : ∃ xs, Tr.rng a0 t (flat h g) = xs := ⟨_, rfl⟩
  rw [hxs] at hY ⊢
  have H0 : Hid (Goes b o h g c Bn s t R J (fun k => k = c) [] xs W) := Lib.hid ⟨h0, rfl, hT, hB, a0, hC, hxs.symm⟩
  have HY := Lib.hid hY
  have HD := Lib.hid (And.intro hkey (And.intro hRt (And.intro hRB (And.intro hcB (And.intro hct hT.good.sorted)))))
  have HS := Lib.hid (And.intro hJ hJx)
  clear hJ hJx hY h0 hT hkey hC hB hRt hRB hcB hct hxs
  gi_wp2
  refine wpIn_wide.2 (wp_loop_ghost_k (fun N a wr => ∃ (K : Nat → Prop) (pre rest : List Pr), rest.length = N ∧ xs = pre ++ rest ∧ cFrame l Bn a ∧ Hid (Goes b o h g c Bn s t R J K pre rest wr)) xs.length ⟨_, [], xs, rfl, rfl, ⟨_, _, _, _, _, _, _, _, _, _, _, _, _, _, _, _, _, _, _, rfl⟩, H0⟩ ?round)
  case round =>
    intro N a wr hrel J' K' hJ' hK'
    refine (wpIn_wide (n := 3)).1 ?_
    obtain ⟨K, pre, rest, hN, hxs, ⟨u2, u3, u4, u5, u6, u7, u8, u9, u10, u11, u12, u13, u14, u15, u16, u17, u18, u19, u20, rfl⟩, HB⟩ := hrel
    have b0 := HB.out.cb
    obtain ⟨at_, hat, hrest⟩ := HB.out.at_
    have HX := Lib.hid (And.intro hN hxs)
    rcases rng_step (s := at_) (t := t) HD.out.2.2.2.2.2 with ⟨hs, hnil⟩ | ⟨q, hc, hs, hcons⟩
    · -- nothing comes
      rw [hnil] at hrest
      have HN := Lib.hid (nextC_stop c b o h g s t at_ wr HB.out.tr hat hs)
      have HR := Lib.hid hrest
      clear hat hrest hs hnil hN hxs
      gi_wp2_with (refine ⟨trivial, ?_⟩; gi_at_call 25; refine (callsIn_wide.2 HN.out).mono ?_; rintro e V ⟨rfl, hb⟩; have HV := Lib.hid hb; clear hb)
      refine ⟨fun _ h => (by cases h), ?_⟩
      gi_wp2
      refine leave_none ⟨_, results_none rfl _ _ _, ⟨_, rfl⟩, K, ?_, .inl ?_⟩
      · rintro k rfl; exact HB.out.kc
      · have := HS.out.1 K K pre _ _ HB.out.j (Fr.ofBelow HV.out _) (fun k h => .inl h)
        rwa [HX.out.2, HR.out, List.append_nil]
    · have hqm : q ∈ flat h g := by
        have : q ∈ Tr.rng at_ t (flat h g) := by rw [hcons]; simp
        exact (rng_mem.1 this).1
      rw [hcons] at hrest
      have HN := Lib.hid (nextC_go c b o h g s t at_ q wr HB.out.tr hat hc hs (HD.out.1 q hqm))
      obtain ⟨rest', hrr⟩ : ∃ r, Tr.rng (q.1 ++ [0]) t (flat h g) = r := ⟨_, rfl⟩
      rw [hrr] at hrest
      have HR := Lib.hid hrest
      have HY2 : Hid (∀ V, CurAt V c b s t (q.1 ++ [0]) → Fr (fun k _ => k = c) wr V → YieldAt Fence.wide 2 Try.prog l (prE q) V fun e W' => (e = .returned (.bool true) ∧ Hid (Goes b o h g c Bn s t R J K (pre ++ [q]) rest' W')) ∨ (e = .returned (.bool false) ∧ Hid (Jx K (pre ++ [q]) W'))) := Lib.hid (fun V hcur hfr => by
        have hB := HB.out
        have hjV := HS.out.1 K K pre _ _ hB.j (hfr.mono (fun k _ e => by rw [e]; exact hB.kc)) (fun k h => .inl h)
        obtain ⟨fn, tm, as_, bd, hy, hRd⟩ := HY.out K pre q rest' V (by rw [HX.out.2, hrest]) (by rintro k rfl; exact hB.kc) hjV 2
        refine ⟨fn, tm, as_, bd, hy, hRd.mono ?_⟩
        rintro e W' ⟨hf2, ⟨rfl, hj⟩ | ⟨rfl, hj⟩⟩
        · refine .inl ⟨rfl, Lib.hid ⟨hj, hB.kc, (hB.tr.fr hfr (fun k x hx e => HD.out.2.2.2.2.1 x (by rw [← e]; exact hx))).fr hf2 (fun k x hx e => e.2 (HD.out.2.1 k x hx)), ?_, q.1 ++ [0], hcur.fr hf2 (fun _ e => e.1 hB.kc), hrr.symm⟩⟩
          exact cell_fr hf2 (cell_fr hfr hB.cb (fun e => HD.out.2.2.2.1 e.symm)) (fun e => e.2 HD.out.2.2.1)
        · exact .inr ⟨rfl, Lib.hid hj⟩)
      clear hat hrest hs hcons hc hqm hN hxs hrr
      gi_wp2_with (refine ⟨trivial, ?_⟩; gi_at_call 25; refine (callsIn_wide.2 HN.out).mono ?_; rintro e V ⟨rfl, hcur, hfr⟩; obtain ⟨fn, tm, as_, bd, hy, hRd⟩ := HY2.out V hcur hfr; simp only [prE] at hy; have HRd := Lib.hid hRd; clear hcur hfr hRd)
      refine HRd.out.mono ?_
      rintro e W2 (⟨rfl, HW2⟩ | ⟨rfl, HW2⟩)
      · gi_wp2
        obtain ⟨hN, hxs⟩ := HX.out
        rw [HR.out] at hN hxs
        simp only [List.length_cons] at hN
        subst hN
        exact Handed.intro rest'.length (by omega) (hJ' _ _ _ ⟨K, pre ++ [q], rest', rfl, by rw [hxs]; simp, ⟨_, _, _, _, _, _, _, _, _, _, _, _, _, _, _, _, _, _, _, rfl⟩, HW2⟩)
      · gi_wp2
        refine leave_none ⟨_, results_none rfl _ _ _, ⟨_, rfl⟩, K, ?_, .inr ⟨pre, q, rest', ?_, HW2.out⟩⟩
        · rintro k rfl; exact HB.out.kc
        · rw [HX.out.2, HR.out]
end Go.Proofs.Ytbempjkkohjnbaa

/- Scan: the pairs of a range. -/
namespace Go.Proofs.Ytbempjkkohjnbaa
open Go.RowKit Tr
open Ky (less)
attribute [local go_sem] Oper.semAt_some
theorem Try.infoTwo : (Try.prog.info? 67).map (fun i => (i.zero, i.size, i.bytes)) = some (some (.agg #[.string ⟨#[]⟩, .string ⟨#[]⟩]), 2, 32) := by kernel_rfl
theorem wpIn_scope_wide {P : Program} {n : Nat} {Q : Exit → Act → World → Prop} {a : Act} {w : World} {c : Code} (h : c.wpIn Fence.wide n P (Exit.noGoto Q) a w) : (Code.scope c).wpIn Fence.wide n P Q a w := wpIn_wide.2 (wp_scope_straight (wpIn_wide.1 h))
theorem wpIn_label_wide {P : Program} {n : Nat} {Q : Exit → Act → World → Prop} {a : Act} {w : World} {l : Nat} (h : Q .normal a w) : (Code.label l).wpIn Fence.wide n P Q a w := wpIn_wide.2 (wp_label h)
/-- What Scan answers where something is wrong. -/
def scanBad (c : Int) : Value := .tuple #[.slice none 0 0, .int .i64 c]
set_option maxHeartbeats 1000000 in
theorem scan_nil (s t : Str) (most : Int) (w : World) :
    Calls Try.prog 27 #[.pointer none, .string ⟨s.toArray⟩, .string ⟨t.toArray⟩, .int .i64 most] w fun e V => e = .returned (scanBad 2) ∧ Below w.heap.size w V := by
  have HN := Lib.hid (fun W => newC_nil s t W)
  refine calls_marks Try.func27 rfl ?_
  simp only [Try.ntmps27, List.size_toArray, List.length_cons, List.length_nil, Nat.reduceAdd, Nat.reduceSub, Array.replicate_succ, Array.replicate_zero, List.push_toArray, List.append_toArray, List.nil_append, List.cons_append]
  gi_wp2
  refine wpIn_scope_wide ?_
  gi_wp2_with (refine ⟨trivial, ?_⟩; gi_at_call 26; refine (callsIn_wide.2 (HN.out _)).mono ?_; rintro e V ⟨rfl, rfl⟩)
  rw [Exit.noGoto_ret]
  exact leave_none ⟨_, results_tmp2 rfl _ _ _, rfl, al1 w _⟩
set_option maxHeartbeats 1000000 in
theorem scan_bad (b : Nat) (s t : Str) (most : Int) (ht : t ≠ []) (hl : less t s = true) (w : World) :
    Calls Try.prog 27 #[ptrV b, .string ⟨s.toArray⟩, .string ⟨t.toArray⟩, .int .i64 most] w fun e V => e = .returned (scanBad 17) ∧ Below w.heap.size w V := by
  have HN := Lib.hid (fun W => newC_bad b s t ht hl W)
  clear ht hl
  refine calls_marks Try.func27 rfl ?_
  simp only [Try.ntmps27, List.size_toArray, List.length_cons, List.length_nil, Nat.reduceAdd, Nat.reduceSub, Array.replicate_succ, Array.replicate_zero, List.push_toArray, List.append_toArray, List.nil_append, List.cons_append]
  gi_wp2
  refine wpIn_scope_wide ?_
  gi_wp2_with (refine ⟨trivial, ?_⟩; gi_at_call 26; refine (callsIn_wide.2 (HN.out _)).mono ?_; rintro e V ⟨rfl, rfl⟩)
  rw [Exit.noGoto_ret]
  exact leave_none ⟨_, results_tmp2 rfl _ _ _, rfl, al1 w _⟩
set_option maxHeartbeats 1000000 in
theorem scan_neg (b : Nat) (s t : Str) (most : Int) (hl : t = [] ∨ less t s = false) (hm : most < 0) (w : World) :
    Calls Try.prog 27 #[ptrV b, .string ⟨s.toArray⟩, .string ⟨t.toArray⟩, .int .i64 most] w fun e V => e = .returned (scanBad 23) ∧ Below w.heap.size w V := by
  obtain ⟨W, hW⟩ : ∃ W, w.alloc (.cells #[.int .i64 most] 3) = W := ⟨_, rfl⟩
  have hc : W.cell? ⟨w.heap.size, 0, none⟩ = some (.int .i64 most) := by rw [← hW]; simp
  have hb : Below w.heap.size w W := by rw [← hW]; exact al1 w _
  have HN := Lib.hid (newC_ok b s t hl W)
  have HB := Lib.hid (And.intro hb hc)
  clear hl hb hc
  refine calls_marks Try.func27 rfl ?_
  simp only [Try.ntmps27, List.size_toArray, List.length_cons, List.length_nil, Nat.reduceAdd, Nat.reduceSub, Array.replicate_succ, Array.replicate_zero, List.push_toArray, List.append_toArray, List.nil_append, List.cons_append]
  gi_wp2
  refine wpIn_scope_wide ?_
  gi_wp2_with (refine ⟨trivial, ?_⟩; gi_at_call 26; refine (callsIn_wide.2 HN.out).mono ?_; rintro e V ⟨rfl, hcur, hb⟩; have H1 := Lib.hid hb; have hc := old_cell HB.out.2 hb; clear hcur hb)
  rw [Exit.noGoto_ret]
  exact leave_none ⟨_, results_tmp2 rfl _ _ _, rfl, HB.out.1.trans (H1.out.mono HB.out.1.size)⟩
set_option maxHeartbeats 4000000 in
set_option maxRecDepth 100000 in
theorem scan_any (b o h : Nat) (g : G) (s t : Str) (most : Nat) (hl : t = [] ∨ less t s = false) (w : World) (hT : TreeAt w b o h g) (hkey : ∀ p ∈ flat h g, p.1.length ≤ 1000) (hlen : (flat h g).length ≤ 900000) :
    Calls Try.prog 27 #[ptrV b, .string ⟨s.toArray⟩, .string ⟨t.toArray⟩, .int .i64 most] w fun e V => ∃ (a : Option Addr) (c : Nat), e = .returned (.tuple #[.slice a ((Tr.rng s t (flat h g)).take most).length c, .int .i64 0]) ∧ Loc 2 w V a ((Tr.rng s t (flat h g)).take most).length c (pairsV ((Tr.rng s t (flat h g)).take most)) := by
  obtain ⟨i0, hi, hz0, hz1, hz2⟩ := info_parts Try.infoTwo
  obtain ⟨W, hW⟩ : ∃ W, w.alloc (.cells #[.int .i64 most] 3) = W := ⟨_, rfl⟩
  have hc : W.cell? ⟨w.heap.size, 0, none⟩ = some (.int .i64 most) := by rw [← hW]; simp
  have hb : Below w.heap.size w W := by rw [← hW]; exact al1 w _
  have hsW : W.heap.size = w.heap.size + 1 := by rw [← hW]; simp
  have HN := Lib.hid (newC_ok b s t hl W)
  have HD := Lib.hid (And.intro hT (And.intro hkey (And.intro hlen (And.intro hb (And.intro hc hsW)))))
  clear hl hb hc hT hkey hlen hsW
  have hmost : ¬ (most : Int) < 0 := by omega
  refine calls_marks Try.func27 rfl ?_
  simp only [Try.ntmps27, List.size_toArray, List.length_cons, List.length_nil, Nat.reduceAdd, Nat.reduceSub, Array.replicate_succ, Array.replicate_zero, List.push_toArray, List.append_toArray, List.nil_append, List.cons_append]
  gi_wp2
  refine wpIn_scope_wide ?_
  gi_wp2_with (first
    | (refine ⟨trivial, ?_⟩; gi_at_call 26; refine (callsIn_wide.2 HN.out).mono ?_; rintro e V ⟨rfl, hcur, hb⟩; have H1 := Lib.hid (And.intro hcur hb); have hc := old_cell HD.out.2.2.2.2.1 hb; clear hcur hb)
    | (refine ⟨trivial, ?_⟩; gi_at_call 47; refine (callsIn_wide.2 (pairsC_any _ _ rfl _)).mono ?_; rintro e V2 ⟨rfl, hV2⟩))
  refine wpIn_label_wide ?_
  gi_wp2_with (refine ⟨trivial, ?_⟩; gi_at_call 47; refine (callsIn_wide.2 (pairsC_any _ _ rfl _)).mono ?_; rintro e V2 ⟨rfl, hV2⟩)
  obtain ⟨p, hp⟩ : ∃ p, w.heap.size = p := ⟨_, rfl⟩
  obtain ⟨c, hcc⟩ : ∃ c, W.heap.size = c := ⟨_, rfl⟩
  obtain ⟨u, hu⟩ : ∃ u, V.heap.size = u := ⟨_, rfl⟩
  obtain ⟨xs, hxs⟩ : ∃ xs, Tr.rng s t (flat h g) = xs := ⟨_, rfl⟩
  have HV := Lib.hid (And.intro hp (And.intro hcc (And.intro hu hxs)))
  have HW : Hid (V2.heap.size = u + 2 ∧ c = p + 1 ∧ c < u ∧ V2.cell? ⟨u, 0, none⟩ = some (.slice none 0 0) ∧ V2.frozen? ⟨u, 0, none⟩ = false ∧ V2.cell? ⟨u + 1, 0, none⟩ = some (.func (.func 25) #[ptrV c] #[]) ∧ V2.cell? ⟨p, 0, none⟩ = some (.int .i64 most) ∧ CurAt V2 c b s t s ∧ Below w.heap.size w V2) := Lib.hid (by
    have hbV : Below V.heap.size V V2 := by rw [← hV2]; exact (al1 V _).trans ((al1 (V.alloc (.cells #[.slice none 0 0] 49)) _).mono (by simp))
    have hs := H1.out.2.size
    have hlt := block_of_cell H1.out.1.c0
    obtain ⟨d1, d2, d3, d4, d5, d6⟩ := HD.out
    have hbw : Below w.heap.size w V := d4.trans (H1.out.2.mono d4.size)
    refine ⟨by rw [← hV2, ← hu]; simp, by omega, by rw [← hcc, ← hu]; exact hlt, by rw [← hV2, ← hu]; exact old_cell (w := V.alloc (.cells #[.slice none 0 0] 49)) (by simp) (al1 _ _), ?_, by rw [← hV2, ← hu, ← hcc]; simp, by rw [← hp]; exact old_cell hc hbV, by rw [← hcc]; exact H1.out.1.later hbV, hbw.trans (hbV.mono hbw.size)⟩
    rw [← hV2, ← hu]
    rw [(al1 (V.alloc (.cells #[.slice none 0 0] 49)) _).frozen (p := ⟨V.heap.size, 0, none⟩) (by simp)]
    simp)
  have HK : Hid (∀ W2 : World, Fr (fun k _ => k = u ∨ k = c) V2 W2 → W2.cell? ⟨p, 0, none⟩ = some (.int .i64 most)) := Lib.hid (fun W2 hf => by
    obtain ⟨e1, e2, e3, e4, e5, e6, e7, e8, e9⟩ := HW.out
    exact cell_fr hf e7 (by omega))
  have HTr : Hid (TreeAt V2 b o h g ∧ ∀ k x, treeF b h g k x → k < p) := Lib.hid ⟨HD.out.1.later HW.out.2.2.2.2.2.2.2.2, fun k x hx => by rw [← hp]; exact HD.out.1.m.lies k x hx⟩
  rw [hp, hcc, hu]
  clear hp hcc hu hxs hV2 hc hW
  refine wpIn_range_tells (by omega) (gf := 59) (lb := #[.pointer (some ⟨u + 1, 0, none⟩)]) rfl (enters_any Try.func59 (by kernel_rfl) rfl) (encs := prE) (stops := True) (xs := xs)
    (R := fun k => (∃ x, treeF b h g k x) ∨ k = u + 1) (K0 := fun k => k = c) (fun o1 o2 => ?seq) (fun x => rfl) ?rlt (fun k hk => by rw [hk, HW.out.1]; have := HW.out.2.2.1; omega)
    (fun K pre W' => pre.length ≤ most ∧ Coll2 2 pairsV V2 u (fun k => k = c) K pre W') (fun cd K tl W' => cd = .exit 0 ∧ ∃ pre x, tl = pre ++ [x] ∧ pre.length = most ∧ Coll2 2 pairsV V2 u (fun k => k = c) K pre W')
    ?clos1 ?clos2 (.inl trivial) ⟨Nat.zero_le _, Coll2.start rfl HW.out.2.2.2.1 HW.out.2.2.2.2.1⟩
    (fun x => { tmps := #[ptrV b, .string ⟨s.toArray⟩, .string ⟨t.toArray⟩, .int .i64 most, undef, undef, undef, .pointer (some ⟨p, 0, none⟩), .slice none 0 0, .int .i64 0, ptrV c, .int .i64 0, .pointer (some ⟨u, 0, none⟩), .string ⟨x.1.toArray⟩, .string ⟨x.2.toArray⟩, .tuple #[ptrV c, .int .i64 0], ptrV b, .string ⟨s.toArray⟩, .string ⟨t.toArray⟩, .tuple #[ptrV c, .int .i64 0], ptrV c, .int .i64 0, .int .i64 0, .bool false, undef, .int .i64 most, .bool (decide ((most : Int) < 0)), ptrV c, .func (.func 25) #[ptrV c] #[], .func (.func 59) #[] #[.pointer (some ⟨u + 1, 0, none⟩)], .string ⟨x.1.toArray⟩, .string ⟨x.2.toArray⟩, undef, undef, undef, undef, undef, undef, undef, undef, undef, undef, undef], defers := [] }) ?assign ?body ?done ?stop
  case clos1 =>
    intro K K' pre W1 W2 ⟨h1, h2⟩ hf hK
    exact ⟨h1, Coll2.clos (by rw [HW.out.1]; omega) (by have := HW.out.2.2.1; omega) (fun k e => by rw [HW.out.1, e]; have := HW.out.2.2.1; omega) K K' pre W1 W2 h2 hf hK⟩
  case clos2 =>
    intro cd K K' tl W1 W2 ⟨h0, pre, x, h1, h2, h3⟩ hf hK
    exact ⟨h0, pre, x, h1, h2, Coll2.clos (by rw [HW.out.1]; omega) (by have := HW.out.2.2.1; omega) (fun k e => by rw [HW.out.1, e]; have := HW.out.2.2.1; omega) K K' pre W1 W2 h3 hf hK⟩
  case rlt =>
    intro k hk
    have := HW.out
    rcases hk with ⟨x, hx⟩ | rfl
    · have := HTr.out.2 k x hx; omega
    · omega
  case seq =>
    have hbo : Below V2.heap.size V2 ((V2.alloc o1).alloc o2) := (al1 V2 o1).trans ((al1 (V2.alloc o1) o2).mono (by simp))
    obtain ⟨e1, e2, e3, e4, e5, e6, e7, e8, e9⟩ := HW.out
    rw [← HV.out.2.2.2]
    exact pairs1_tells b o h g c (u + 1) s t s _ _ (HTr.out.1.later hbo) HD.out.2.1 (e8.later hbo) (old_cell e6 hbo) (fun k x hx => .inl ⟨x, hx⟩) (.inr rfl) (by omega) (fun x hx => by have := HTr.out.2 c x hx; omega)
  case assign =>
    intro l' x W2 K1 hK1
    simp only [prE]
    gi_wp2
    exact hK1
  case body =>
    rintro l' K pre x post W2 hx _ ⟨hpm, F, a, cc, h1, h2, h3, h4, h5, h6, h7⟩
    have y1 := HK.out W2 h6
    have hn : pre.length + 1 ≤ 900000 := by
      have h1 := HD.out.2.2.1
      have h2 := rng_len s t (flat h g)
      rw [HV.out.2.2.2, hx] at h2
      simp at h2
      omega
    obtain ⟨j, hj⟩ : ∃ j, pre.length = j := ⟨_, rfl⟩
    have HJ := Lib.hid hj
    have HS := Lib.hid (And.intro h1 (And.intro h2 (And.intro h3 (And.intro h6 h7))))
    have HB3 := Lib.hid (al1 W2 (.cells #[.string ⟨x.1.toArray⟩, .string ⟨x.2.toArray⟩] 67))
    rw [hj] at h4 hn hpm
    clear h1 h2 h3 h6 h7 hx hj
    by_cases hjm : j = most
    · subst hjm
      have HC : Hid (Coll2 2 pairsV V2 u (fun k => k = c) K pre W2) := Lib.hid ⟨F, a, cc, HS.out.1, HS.out.2.1, HS.out.2.2.1, by rw [HJ.out]; exact h4, h5, HS.out.2.2.2.1, HS.out.2.2.2.2⟩
      gi_wp2
      exact ⟨Fr.refl _ _, rfl, pre, ⟨x.1, x.2, rfl⟩, HJ.out, HC.out⟩
    · have hj1 : ¬ (j : Int) = (most : Int) := by omega
      have hlt : j + 1 ≤ most := by omega
      gi_wp2_with (gi_at_builtin; refine wpListIn_app_sl rfl (.tmp 36) (.tmp 40) 49 rfl 67 i0 _ 2 32 Try.underlying49 hi hz0 hz1 hz2 rfl (by decide) F a j cc (pairsV pre) rfl (by have := HS.out.1.laid (.cells #[.string ⟨x.1.toArray⟩, .string ⟨x.2.toArray⟩] 67); rwa [HJ.out] at this) (HS.out.2.1.laid _) (some ⟨W2.heap.size, 0, none⟩) 1 1 [.string ⟨x.1.toArray⟩, .string ⟨x.2.toArray⟩] rfl (Rd.twoNew W2 _ _ _ rfl rfl) (j + 1) (pairsV (pre ++ [x])) rfl (by simp [pairsV]) (by unfold maxLen; omega) (by omega) ?_; intro a' c' W3 F' k1 k2 k3 k4; have H3 := Lib.hid (And.intro k1 (And.intro k2 (And.intro k3 k4))); obtain ⟨hc3, hf3⟩ := Coll2.after (by rw [HW.out.1]; omega) HS.out.2.2.1 h4 h5 HB3.out k2; clear k1 k2 k3 k4)
      have e : (pre ++ [x]).length = j + 1 := by simp [HJ.out]
      have hst := Coll2.step (V := pairsV) (pre := pre) (x := x) (K0 := fun k => k = c) (by rw [HW.out.1]; omega) (by have := HW.out.2.2.1; omega) (fun k e => by rw [HW.out.1, e]; have := HW.out.2.2.1; omega) HS.out.2.1 HS.out.2.2.1 HS.out.2.2.2.1 HS.out.2.2.2.2 HB3.out (by rw [e]; exact H3.out.1) H3.out.2.1 H3.out.2.2.1 H3.out.2.2.2 (by rw [h4]; rfl) h5 (fun k => (∃ x, treeF b h g k x) ∨ k = u + 1) (fun k hk => by
        have := HW.out
        rcases hk with ⟨x, hx⟩ | rfl
        · have := HTr.out.2 k x hx; omega
        · omega)
      refine ⟨?_, by rw [e]; exact hlt, ?_⟩
      · have := hst.1
        rw [e] at this; exact this
      · have := hst.2
        rw [e] at this; exact this
  case stop =>
    rintro D cd K pre' x' post' W3 hx ⟨rfl, pre, x, hpx, hpm, F, a, cc, h1, h2, h3, h4, h5, h6, h7⟩ _ hKD hsD hDef
    have hpp : pre' = pre := (List.append_inj' hpx rfl).1
    subst hpp
    have HTK : Hid (xs.take most = pre') := Lib.hid (by rw [hx, ← hpm]; simp)
    clear hpm hx
    gi_wp2
    (try rw [Exit.noGoto_ret])
    obtain ⟨hp, hcc, hu, hxs⟩ := HV.out
    obtain ⟨e1, e2, e3, e4, e5, e6, e7, e8, e9⟩ := HW.out
    rw [hxs]
    refine leave_marks [D] W3 (by simp) (fun E hE => by simp at hE; subst hE; exact hDef) (fun W' hf => ?_)
    have hvv : ¬ (u ∈ [D]) := by simp; omega
    rw [HTK.out]
    have hWs := e9.size
    refine ⟨_, results_tmp2 rfl _ _ _, a, cc, rfl, F, h1.fr hf (fun b o hb hk => by simp at hk; subst hk; exact (h3 _ _ hb).2 hKD), h2.later hf, fun b o hb => Nat.le_trans hWs (h3 b o hb).1, e9.trans ?_⟩
    refine ((h6.trans hf (fun b o hb => .inr ?_)).below (B := w.heap.size) hWs (fun k x hk => ?_))
    · simp at hb; subst hb; exact hsD
    · rcases hk with rfl | rfl <;> omega
  case done =>
    rintro D K W3 ⟨hpm, F, a, cc, h1, h2, h3, h4, h5, h6, h7⟩ _ hKD hsD hDef
    have HTK : Hid (xs.take most = xs) := Lib.hid (List.take_of_length_le hpm)
    gi_wp2
    (try rw [Exit.noGoto_ret])
    obtain ⟨hp, hcc, hu, hxs⟩ := HV.out
    obtain ⟨e1, e2, e3, e4, e5, e6, e7, e8, e9⟩ := HW.out
    rw [hxs]
    refine leave_marks [D] W3 (by simp) (fun E hE => by simp at hE; subst hE; exact hDef) (fun W' hf => ?_)
    have hvv : ¬ (u ∈ [D]) := by simp; omega
    rw [HTK.out]
    have hWs := e9.size
    refine ⟨_, results_tmp2 rfl _ _ _, a, cc, rfl, F, h1.fr hf (fun b o hb hk => by simp at hk; subst hk; exact (h3 _ _ hb).2 hKD), h2.later hf, fun b o hb => Nat.le_trans hWs (h3 b o hb).1, e9.trans ?_⟩
    refine ((h6.trans hf (fun b o hb => .inr ?_)).below (B := w.heap.size) hWs (fun k x hk => ?_))
    · simp at hb; subst hb; exact hsD
    · rcases hk with rfl | rfl <;> omega
end Go.Proofs.Ytbempjkkohjnbaa
