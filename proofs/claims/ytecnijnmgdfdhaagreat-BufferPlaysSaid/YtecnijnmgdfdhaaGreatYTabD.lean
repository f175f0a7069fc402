/- Joined: Tab11, Tab12. -/
import Derived.Test.YtecnijnmgdfdhaaGreatYTabC
import Derived.Laws.EntriesVeiled
import Derived.LoopNIn
import Derived.Sort.LoopGhostIn
namespace Go.Proofs.YtecnijnmgdfdhaaGreat
open Go.RowKit Tr
open Ky (less)
attribute [local go_sem] Oper.semAt_some
theorem wpListIn_conv {Fe : Fence} {ne : Nat} {P : Program} {w : World} {ops : Array Oper} {rest : List Oper} {o : Oper} {a : Act} {Q : Exit → Act → World → Prop} (hgd : o.guard = none) (x : Operand) (src dst e : TypeId)
  (ho : o.op = .convert src dst x) (s : List UInt8) (hl : s.length ≤ maxLen) (hs : P.underlying src = some .string) (hd : P.underlying dst = some (.slice e)) (he : P.underlying e = some (.int .u8))
  (hx : a.eval x = .string ⟨s.toArray⟩)
  (h : ∀ a' c' w', RdB w' a' c' s → Below w.heap.size w w' → wpListIn Fe ne P ops Q rest (a.put o.dst (.slice a' s.length c')) w') : wpListIn Fe ne P ops Q (o :: rest) a w := by
 refine wpListIn_plain hgd fun K hK => ?_
 obtain ⟨a', c', w', hrun, h2, h3⟩ := Tb.conv_ex (P := P) src dst e s hl hs hd he w
 unfold Oper.wpIn
 refine ⟨?_, ?_⟩
 ·simp [Oper.about, ho, resolve, Target.leads, Sem.run_pure]
 ·rw [Oper.semAt_plain Fe _ _ (by rw [ho]; intro c hc'; cases hc')]
  simp [execOp, ho, resolve, hx, hrun, Result.andThen]
  exact hK _ _ (h _ _ _ h2 h3)
set_option maxHeartbeats 4000000 in
set_option maxRecDepth 100000 in
theorem all1_tellsT (Bx : Nat) (pa : Option Addr) (pc : Nat) (L : List Pr) (R : Nat → Prop) (W : World) (hn : L.length ≤ 900000) (hB : W.cell? ⟨Bx, 0, none⟩ = some (.slice pa L.length pc)) (hr : Rd W 2 pa L.length pc (pairsV L)) (_hRB : R Bx) (hRa : L ≠ [] → ∀ x, pa = some x → R x.block) (hR : ∀ k, R k → k < W.heap.size) :
  Tells True Tryz.prog 115 #[.pointer (some ⟨Bx, 0, none⟩)] prE L R (fun _ => False) W := by
 intro l J Jx hst hJ hJx hY h0
 clear hst
 refine calls_marks Tryz.func115 rfl ?_
 simp only [Tryz.ntmps115, List.size_toArray, List.length_cons, List.length_nil, Nat.reduceAdd, Nat.reduceSub, Array.replicate_succ, Array.replicate_zero, List.push_toArray, List.append_toArray, List.nil_append, List.cons_append]
 obtain ⟨n, hnn⟩ : ∃ n, L.length = n := ⟨_, rfl⟩
 have HN := Lib.hid hnn
 rw [hnn] at hn hB
 have H0 : Hid (Wlo W R J (fun _ => False) (L.take 0) W) := Lib.hid ⟨by simpa using h0, fun _ h => h.elim, Fr.refl _ _⟩
 have HY := Lib.hid hY
 have HD := Lib.hid (And.intro hr (And.intro hRa hR))
 have HS := Lib.hid (And.intro True.intro (And.intro hJ hJx))
 clear hJ hJx hY h0 hr hRa hR hnn
 gi_wp2
 refine wpIn_wide.2 (wp_loop_ghost_k (fun N a wr => ∃ (i : Nat) (K : Nat → Prop), i + N = n ∧ lFrame l Bx pa n pc i a ∧ Hid (Wlo W R J K (L.take i) wr)) n ⟨0, _, by omega, ⟨_, _, _, _, _, _, _, _, _, _, _, _, _, _, rfl⟩, H0⟩ ?round)
 case round =>
  intro N a wr hrel J' K' hJ' hK'
  refine (wpIn_wide (n := 3)).1 ?_
  obtain ⟨i, K, hi, ⟨u2, u3, u4, u8, u9, u10, u11, u12, u13, u14, u15, u16, u17, u18, rfl⟩, HB⟩ := hrel
  cases N with
  | zero =>
   obtain rfl : i = n := by omega
   clear hi
   gi_wp2
   refine leave_none ⟨_, results_none rfl _ _ _, ⟨_, rfl⟩, K, fun k h => h.elim, .inl ?_⟩
   have := HB.out.j
   rwa [List.take_of_length_le (by rw [HN.out]; exact Nat.le_refl _)] at this
  | succ N =>
   have hlt : i < n := by omega
   obtain ⟨p, hp⟩ : ∃ p, L[i]? = some p := ⟨_, List.getElem?_eq_getElem (by rw [HN.out]; exact hlt)⟩
   have g1 : (i : Int) < (n : Int) := by omega
   have g3 : (0 : Int) ≤ (i : Int) := by omega
   have hLn : L.length = n := HN.out
   obtain ⟨pb, po, rfl, q1⟩ := HD.out.1.addr (by intro e; have := pairsV_len L; rw [e] at this; simp at this; omega)
   obtain ⟨q2, q3⟩ := pairsV_get hp
   have q4 := q1 _ _ q2
   have q5 := q1 _ _ q3
   have hRp := HD.out.2.1 (by rintro rfl; simp at hp) _ rfl
   have p1 : wr.cell? ⟨pb, po + i * 2, none⟩ = some (.string ⟨p.1.toArray⟩) := cell_fr HB.out.keep q4 (fun h => h hRp)
   have p2 : wr.cell? ⟨pb, po + i * 2 + 1, none⟩ = some (.string ⟨p.2.toArray⟩) := cell_fr HB.out.keep (by rw [Nat.add_assoc]; exact q5) (fun h => h hRp)
   have HP := Lib.hid hp
   clear q1 q2 q3 q4 q5 hLn hp
   have hw5 := HB.out.own HS.out.2.1 (al1 wr (.cells #[.string ⟨p.1.toArray⟩, .string ⟨p.2.toArray⟩] 168))
   obtain ⟨K2, hK2⟩ : ∃ K2 : Nat → Prop, K2 = fun k => K k ∨ (wr.heap.size ≤ k ∧ k < (wr.alloc (.cells #[.string ⟨p.1.toArray⟩, .string ⟨p.2.toArray⟩] 168)).heap.size) := ⟨_, rfl⟩
   rw [← hK2] at hw5
   obtain ⟨fn, tm, as_, bd, hy, hRd⟩ := HY.out K2 (L.take i) p (L.drop (i + 1)) _ (by
    have h := HP.out
    obtain ⟨h1, h2⟩ := List.getElem?_eq_some_iff.1 h
    rw [← h2, ← List.drop_eq_getElem_cons h1, List.take_append_drop]) (fun k h => h.elim) hw5.j 2
   simp only [prE] at hy
   have HRd : Hid (RoundIn Fence.wide 2 Tryz.prog l fn tm as_ bd (wr.alloc (.cells #[.string ⟨p.1.toArray⟩, .string ⟨p.2.toArray⟩] 168)) fun e W' => (e = .returned (.bool true) ∧ Hid (Wlo W R J K2 (L.take (i + 1)) W')) ∨ (e = .returned (.bool false) ∧ Hid (Jx K2 (L.take i ++ [p]) W'))) := Lib.hid (hRd.mono (fun e W' ⟨hfr, hc⟩ => by
    rcases hc with ⟨rfl, hj⟩ | ⟨rfl, hjx⟩
    ·refine .inl ⟨rfl, Lib.hid (hw5.round ?_ hfr)⟩
     rw [List.take_add_one, HP.out]; exact hj
    ·exact .inr ⟨rfl, Lib.hid hjx⟩))
   clear hRd hw5 hK2
   gi_wp2
   refine HRd.out.mono ?_
   rintro e W2 (⟨rfl, HW2⟩ | ⟨rfl, HW2⟩)
   ·gi_wp2
    have e1 : (i : Int) + 1 = ((i + 1 : Nat) : Int) := by omega
    rw [e1]
    exact Handed.intro N (by omega) (hJ' _ _ _ ⟨i + 1, K2, by omega, ⟨_, _, _, _, _, _, _, _, _, _, _, _, _, _, rfl⟩, HW2⟩)
   ·gi_wp2
    refine leave_none ⟨_, results_none rfl _ _ _, ⟨_, rfl⟩, K2, fun k h => h.elim, .inr ⟨L.take i, p, L.drop (i + 1), ?_, HW2.out⟩⟩
    obtain ⟨h1, h2⟩ := List.getElem?_eq_some_iff.1 HP.out
    rw [← h2, ← List.drop_eq_getElem_cons h1, List.take_append_drop]
namespace Tb
theorem decode_row {r : R4} (hr : In4 r) {s : Str} (hs : s = encT r) {a : Option Addr} {c : Nat} {w : World} (h : RdB w a c s) :
  Calls Tryz.prog 81 #[.slice a s.length c] w fun e V => e = .returned (.tuple #[rowW r, .int .i64 0]) ∧ Below w.heap.size w V := by
 obtain ⟨l, h1, h2⟩ := Rw.row_encR hr
 have hl : s.length ≤ 40 := by rw [hs]; exact encT_len hr
 have := Rw.rowsDecode a c s (by omega) w h
 rw [hs, show Rw.Fd.row (encT r) = some l from h1] at this
 have e : Rw.lRow l = rowW r := by
  refine lRow_v ?_
  rw [← decT_encT hr]
  unfold decT
  rw [show Rw.Fd.row (encT r) = some l from h1]
 rw [hs, ← e]
 exact this
def rowE (p : Pr) : Array Value := #[.string ⟨p.1.toArray⟩, rowW (decT p.2)]
def Out2 (l q : Nat) (J : (Nat → Prop) → List Pr → World → Prop) (K : Nat → Prop) (pre : List Pr) (W1 : World) : Prop :=
 J (fun k => K k ∨ k = q) pre W1 ∧ W1.cell? ⟨q, 0, none⟩ = some (.func (.yield l) #[] #[]) ∧ ∀ k, K k → q < k ∧ k < W1.heap.size
theorem Out2.clos {l q : Nat} {J : (Nat → Prop) → List Pr → World → Prop} (hJ : Clos J) : Clos (Out2 l q J) := by
 intro K K' pre W W' ⟨h1, h2, h3⟩ hf hK
 have hq := block_of_cell h2
 simp at hq
 have hn : ¬ K q := fun h => by have := (h3 q h).1; omega
 refine ⟨hJ _ _ _ _ _ h1 (hf.mono (fun k _ h => .inl h)) (fun k hk => ?_), cell_fr hf h2 hn, fun k hk => ?_⟩
 ·rcases hk with hk | hk
  ·rcases hK k hk with h | h
   ·exact .inl (.inl h)
   ·exact .inr h
  ·exact .inl (.inr hk)
 ·have hs := hf.size
  rcases hK k hk with h | h
  ·have := h3 k h; omega
  ·omega
def Ix2 (q : Nat) (Jx : (Nat → Prop) → List Pr → World → Prop) (c : Code) (K : Nat → Prop) (pre : List Pr) (W1 : World) : Prop :=
 c = .ret ∧ Jx (fun k => K k ∨ k = q) pre W1 ∧ q < W1.heap.size ∧ ∀ k, K k → q < k ∧ k < W1.heap.size
theorem Ix2.clos {q : Nat} {Jx : (Nat → Prop) → List Pr → World → Prop} (hJ : Clos Jx) (c : Code) : Clos (Ix2 q Jx c) := by
 intro K K' pre W W' ⟨h0, h1, h2, h3⟩ hf hK
 refine ⟨h0, hJ _ _ _ _ _ h1 (hf.mono (fun k _ h => .inl h)) (fun k hk => ?_), Nat.lt_of_lt_of_le h2 hf.size, fun k hk => ?_⟩
 ·rcases hk with hk | hk
  ·rcases hK k hk with h | h
   ·exact .inl (.inl h)
   ·exact .inr h
  ·exact .inl (.inr hk)
 ·have hs := hf.size
  rcases hK k hk with h | h
  ·have := h3 k h; omega
  ·omega
set_option maxHeartbeats 4000000 in
set_option maxRecDepth 100000 in
theorem all2_tells (Bn Bx : Nat) (pa : Option Addr) (pc : Nat) (L : List Pr) (R : Nat → Prop) (W : World) (hok : OkT L) (hn : L.length ≤ 900000) (hBn : W.cell? ⟨Bn, 0, none⟩ = some (.func (.func 115) #[] #[.pointer (some ⟨Bx, 0, none⟩)])) (hB : W.cell? ⟨Bx, 0, none⟩ = some (.slice pa L.length pc)) (hr : Rd W 2 pa L.length pc (pairsV L)) (hRB : R Bx) (hRa : L ≠ [] → ∀ x, pa = some x → R x.block) (hR : ∀ k, R k → k < W.heap.size) :
  Tells True Tryz.prog 80 #[.pointer (some ⟨Bn, 0, none⟩)] rowE L R (fun _ => False) W := by
 intro l J Jx hst hJ hJx hY h0
 clear hst
 refine calls_marks Tryz.func80 rfl ?_
 simp only [Tryz.ntmps80, List.size_toArray, List.length_cons, List.length_nil, Nat.reduceAdd, Nat.reduceSub, Array.replicate_succ, Array.replicate_zero, List.push_toArray, List.append_toArray, List.nil_append, List.cons_append]
 obtain ⟨q, hq⟩ : ∃ q, W.heap.size = q := ⟨_, rfl⟩
 have hb0 := al1 W (.cells #[.func (.yield l) #[] #[]] 142)
 have y0 := old_cell hBn hb0
 have hI0 : Out2 l q J (fun _ => False) [] (W.alloc (.cells #[.func (.yield l) #[] #[]] 142)) :=
  ⟨hJ _ _ _ _ _ h0 (Fr.ofBelow hb0 _) (fun k hk => .inr (by rcases hk with h | h; exact h.elim; subst h; simp; omega)), by rw [← hq]; simp, fun _ h => h.elim⟩
 obtain ⟨V, hV⟩ : ∃ V, W.alloc (.cells #[.func (.yield l) #[] #[]] 142) = V := ⟨_, rfl⟩
 have hVs : V.heap.size = q + 1 := by rw [← hV, ← hq]; simp
 rw [hV] at y0 hb0 hI0
 have HI0 := Lib.hid hI0
 have HY := Lib.hid hY
 have HD := Lib.hid (And.intro hok (And.intro hn (And.intro (old_cell hB hb0) (And.intro (hr.later hb0) (And.intro hRB (And.intro hRa (And.intro hR (And.intro hq hVs))))))))
 have HS := Lib.hid (And.intro hJ hJx)
 clear hJ hJx hY h0 hok hn hB hr hRB hRa hR hI0 hb0 hBn hVs
 gi_wp2
 refine' wpIn_range_tells (by omega) (gf := 115) (lb := #[.pointer (some ⟨Bx, 0, none⟩)]) rfl (enters_any Tryz.func115 (by kernel_rfl) rfl) (encs := prE) (stops := True) (xs := L)
  (R := fun k => k = Bx ∨ (L ≠ [] ∧ ∃ x, pa = some x ∧ k = x.block)) (K0 := fun _ => False) (fun o1 o2 => ?seq) (fun x => rfl) ?rlt (fun k hk => hk.elim)
  (Out2 l q J) (Ix2 q Jx) (Out2.clos HS.out.1) (Ix2.clos HS.out.2) (.inl trivial) HI0.out _ ?assign ?body ?done ?stop
 case seq =>
  have hbo : Below V.heap.size V ((V.alloc o1).alloc o2) := (al1 V o1).trans ((al1 (V.alloc o1) o2).mono (by simp))
  obtain ⟨d1, d2, d3, d4, d5, d6, d7, d8, d9⟩ := HD.out
  have hbs := hbo.size
  refine all1_tellsT Bx pa pc L _ _ d2 (old_cell d3 hbo) (d4.later hbo) (.inl rfl) (fun hne x hx => .inr ⟨hne, x, hx, rfl⟩) (fun k hk => ?_)
  have : R k := by
   rcases hk with rfl | ⟨hne, x, hx, rfl⟩
   ·exact d5
   ·exact d6 hne x hx
  have := d7 k this
  omega
 case rlt =>
  obtain ⟨d1, d2, d3, d4, d5, d6, d7, d8, d9⟩ := HD.out
  intro k hk
  have : R k := by
   rcases hk with rfl | ⟨hne, x, hx, rfl⟩
   ·exact d5
   ·exact d6 hne x hx
  have := d7 k this
  omega
 case assign =>
  intro l' x W2 K1 hK1
  simp only [prE]
  gi_wp2
  exact hK1
 case body =>
  rintro l' K pre x post W1 hx _ hI
  obtain ⟨d1, d2, d3, d4, d5, d6, d7, d8, d9⟩ := HD.out
  have HRK : Hid (∀ k, (k = Bx ∨ (L ≠ [] ∧ ∃ x, pa = some x ∧ k = x.block)) → R k ∧ k < q) := Lib.hid (fun k hk => by
   have : R k := by
    rcases hk with rfl | ⟨hne, x, hx, rfl⟩
    ·exact d5
    ·exact d6 hne x hx
   have h7 := d7 k this
   exact ⟨this, by omega⟩)
  have hxm : x ∈ L := by rw [hx]; simp
  obtain ⟨_, r, hr, hxe⟩ := d1 x hxm
  have hdr : decT x.2 = r := by rw [hxe, decT_encT hr]
  have hxl : x.2.length ≤ 40 := by rw [hxe]; exact encT_len hr
  have HDc := Lib.hid (fun (V : World) (a : Option Addr) (c : Nat) (h : RdB V a c x.2) => decode_row hr hxe h)
  obtain ⟨r0, r1, r2, r3⟩ := r
  have hbx : W1.heap.size = W1.heap.size := rfl
  have HI := Lib.hid hI
  have HYy : Hid (∀ W2, Below W1.heap.size W1 W2 → ∀ m, YieldAt Fence.wide m Tryz.prog l #[.string ⟨x.1.toArray⟩, rowW (r0, r1, r2, r3)] W2 fun e W' => Hid (Fr (fun k _ => ¬ K k ∧ ¬ (k = Bx ∨ (L ≠ [] ∧ ∃ x, pa = some x ∧ k = x.block))) W1 W') ∧ ((e = .returned (.bool true) ∧ Hid (Out2 l q J K (pre ++ [x]) W')) ∨ (e = .returned (.bool false) ∧ Hid (Ix2 q Jx .ret K (pre ++ [x]) W')))) := Lib.hid (fun W2 hb m => by
   obtain ⟨i1, i2, i3⟩ := HI.out
   have hqs := block_of_cell i2
   simp at hqs
   have hj := HS.out.1 _ (fun k => K k ∨ k = q) _ _ _ i1 (Fr.ofBelow hb _) (fun k h => .inl h)
   have hy := HY.out (fun k => K k ∨ k = q) pre x post W2 hx (fun k h => h.elim) hj m
   unfold rowE at hy
   rw [hdr] at hy
   obtain ⟨fn, tm, as_, bd, hy, hRd⟩ := hy
   refine ⟨fn, tm, as_, bd, hy, hRd.mono ?_⟩
   rintro e W' ⟨hfr, hc⟩
   have hbs := hb.size
   have hs := hfr.size
   refine ⟨Lib.hid ((Fr.ofBelow hb _).trans (hfr.mono (fun k _ h => (⟨fun h' => h.1 (.inl h'), fun h' => h.2 (HRK.out k h').1⟩ : ¬ K k ∧ ¬ (k = Bx ∨ (L ≠ [] ∧ ∃ x, pa = some x ∧ k = x.block))))) (fun _ _ h => .inl h)), ?_⟩
   rcases hc with ⟨rfl, hj2⟩ | ⟨rfl, hj2⟩
   ·exact .inl ⟨rfl, Lib.hid ⟨hj2, cell_fr hfr (old_cell i2 hb) (fun h => h.1 (.inr rfl)), fun k hk => by have := i3 k hk; omega⟩⟩
   ·exact .inr ⟨rfl, Lib.hid ⟨rfl, hj2, by omega, fun k hk => by have := i3 k hk; omega⟩⟩)
  have y5 := hI.2.1
  simp only [rowW] at HDc HYy
  clear hI hx hxm hr hxe hdr d1 d2 d3 d4 d5 d6 d7 d8 d9 hbx
  gi_wp2_with (first
   | (refine wpListIn_conv rfl (.tmp 11) 9 129 5 rfl x.2 (by unfold maxLen; omega) Tryz.underlying9 Tryz.underlying129 Tryz.underlying5 rfl ?_; intro a3 c3 w3 hr hb; have H3 := Lib.hid (And.intro hr hb); have y6 := old_cell y5 hb; clear hr hb)
   | (refine ⟨trivial, ?_⟩; gi_at_call 81; refine (calls_round l' (HDc.out _ _ _ H3.out.1)).mono ?_; rintro e V4 ⟨rfl, hb⟩; have H4 := Lib.hid (H3.out.2.trans (hb.mono H3.out.2.size)); have y7 := old_cell (old_cell y6 hb) (al1 V4 (.cells #[.int .i64 r0, .int .i64 r1, .int .i64 r2, .int .i64 r3] 41)); clear hb; obtain ⟨fn, tm, as_, bd, hy, hRd⟩ := HYy.out _ (H4.out.trans ((al1 V4 (.cells #[.int .i64 r0, .int .i64 r1, .int .i64 r2, .int .i64 r3] 41)).mono H4.out.size)) 2; have HRd := Lib.hid (fun m => roundIn_any (m' := m) hRd); clear hRd))
  refine (HRd.out _).mono ?_
  rintro e W5 ⟨hf5, ⟨rfl, HW5⟩ | ⟨rfl, HW5⟩⟩
  ·gi_wp2
   exact ⟨hf5.out, HW5.out⟩
  ·gi_wp2
   exact ⟨hf5.out, HW5.out⟩
 case stop =>
  rintro D cd K pre x post W3 hx ⟨rfl, hj, hq3, hK3⟩ _ hKD hsD hDef
  have HX := Lib.hid (And.intro hx (And.intro hj (And.intro hq3 (And.intro hK3 (And.intro hKD (And.intro hsD hDef))))))
  clear hx hj hq3 hK3 hKD hsD hDef
  gi_wp2
  obtain ⟨hx, hj, hq3, hK3, hKD, hsD, hDef⟩ := HX.out
  refine leave_marks [D] W3 (by simp) (fun E hE => by simp at hE; subst hE; exact hDef) (fun W' hf => ?_)
  refine ⟨_, results_none rfl _ _ _, ⟨_, rfl⟩, fun k => K k ∨ k = q, fun k h => h.elim, .inr ⟨pre, x, post, hx, ?_⟩⟩
  exact HS.out.2 _ _ _ _ _ hj (hf.mono (fun k _ h => by simp at h; subst h; exact .inl hKD)) (fun k h => .inl h)
 case done =>
  rintro D K W3 ⟨hj, hc3, hK3⟩ _ hKD hsD hDef
  have HX := Lib.hid (And.intro hj (And.intro hKD hDef))
  clear hj hc3 hK3 hKD hsD hDef
  gi_wp2
  obtain ⟨hj, hKD, hDef⟩ := HX.out
  refine leave_marks [D] W3 (by simp) (fun E hE => by simp at hE; subst hE; exact hDef) (fun W' hf => ?_)
  refine ⟨_, results_none rfl _ _ _, ⟨_, rfl⟩, fun k => K k ∨ k = q, fun k h => h.elim, .inl ?_⟩
  exact HS.out.1 _ _ _ _ _ hj (hf.mono (fun k _ h => by simp at h; subst h; exact .inl hKD)) (fun k h => .inl h)
section
variable {B : Nat} {w0 w V : World} {X Y : List Rs} {tb most o : Nat} {L : List Pr}
def AllAt (w V : World) (L : List Pr) (Bn : Nat) : Prop :=
 ∃ (Bx : Nat) (a : Option Addr) (c : Nat), V.cell? ⟨Bn, 0, none⟩ = some (.func (.func 115) #[] #[.pointer (some ⟨Bx, 0, none⟩)]) ∧ V.cell? ⟨Bx, 0, none⟩ = some (.slice a L.length c) ∧ Rd V 2 a L.length c (pairsV L) ∧ w.heap.size ≤ Bn ∧ w.heap.size ≤ Bx ∧ ∀ x, a = some x → L ≠ [] → w.heap.size ≤ x.block
theorem AllAt.later {w V V2 : World} {L : List Pr} {Bn : Nat} (h : AllAt w V L Bn) (hb : Below V.heap.size V V2) : AllAt w V2 L Bn := by
 obtain ⟨Bx, a, c, h1, h2, h3, h4⟩ := h
 exact ⟨Bx, a, c, old_cell h1 hb, old_cell h2 hb, h3.later hb, h4⟩
theorem AllAt.tells {w V : World} {L : List Pr} {Bn : Nat} (h : AllAt w V L Bn) (hok : OkT L) (hl : L.length ≤ 900000) :
  ∃ R : Nat → Prop, (∀ k, R k → w.heap.size ≤ k ∧ k < V.heap.size) ∧ ∀ V2, Below V.heap.size V V2 → Tells True Tryz.prog 80 #[.pointer (some ⟨Bn, 0, none⟩)] rowE L R (fun _ => False) V2 := by
 obtain ⟨Bx, a, c, h1, h2, h3, h4, h5, h6⟩ := h
 have hB := block_of_cell h2
 simp at hB
 have hr : ∀ k, (k = Bx ∨ (L ≠ [] ∧ ∃ x, a = some x ∧ k = x.block)) → w.heap.size ≤ k ∧ k < V.heap.size := fun k hk => by
  rcases hk with rfl | ⟨hne, x, e, rfl⟩
  ·exact ⟨h5, hB⟩
  ·exact ⟨h6 x e hne, h3.lt x e (pairsV_ne hne)⟩
 refine ⟨fun k => k = Bx ∨ (L ≠ [] ∧ ∃ x, a = some x ∧ k = x.block), hr, fun V2 hb => ?_⟩
 refine all2_tells Bn Bx a c L _ V2 hok hl (old_cell h1 hb) (old_cell h2 hb) (h3.later hb) (.inl rfl) (fun hne x hx => .inr ⟨hne, x, hx, rfl⟩) (fun k hk => ?_)
 have := (hr k hk).2
 have := hb.size
 omega
theorem own_tabAll (h : Own B w0 (TabR tb most o L :: X) w) :
  Calls Tryz.prog 51 #[ptrV tb] w fun e V => ∃ Bn, e = .returned (.func (.func 80) #[] #[.pointer (some ⟨Bn, 0, none⟩)]) ∧ Hid (AllAt w V L Bn) ∧ Below w.heap.size w V := by
 obtain ⟨ok, b, hS⟩ := own_tab h
 have HR := Lib.hid (rows_any hS)
 have HA : Hid (Calls Tryz.prog 79 #[ptrV (b 0)] w fun e V => ∃ (Bx : Nat) (a : Option Addr) (c : Nat), e = .returned (.func (.func 115) #[] #[.pointer (some ⟨Bx, 0, none⟩)]) ∧ V.cell? ⟨Bx, 0, none⟩ = some (.slice a L.length c) ∧ Rd V 2 a L.length c (pairsV L) ∧ Below w.heap.size w V ∧ w.heap.size ≤ Bx ∧ ∀ x, a = some x → L ≠ [] → w.heap.size ≤ x.block) := Lib.hid (by
  obtain ⟨Y, h1, h2⟩ := tree_out tb most o b (tabLs L) 0 (by omega)
  exact own_all_new (hS.perm (h1.append_right X)) (by have := ok.len; have := ok.hi; show L.length ≤ _; omega))
 clear h hS
 go_enter Tryz.func51, Tryz.ntmps51
 go_wp2_with (first
  | (go_at_call 53; refine HR.out.mono ?_; rintro e V ⟨rfl, rfl⟩)
  | (go_at_call 79; refine HA.out.mono ?_; rintro e V ⟨Bx, a, c, rfl, g1, g2, g3, g4, g5⟩; have HV := Lib.hid (And.intro g1 (And.intro g2 (And.intro g3 (And.intro g4 g5)))); clear g1 g2 g3 g4 g5))
 go_ret
 obtain ⟨g1, g2, g3, g4, g5⟩ := HV.out
 have hb := al1 V (.cells #[.func (.func 115) #[] #[.pointer (some ⟨Bx, 0, none⟩)]] 144)
 exact ⟨_, rfl, Lib.hid ⟨Bx, a, c, by simp, old_cell g1 hb, g2.later hb, g3.size, g4, g5⟩, g3.trans (hb.mono g3.size)⟩
end
end Tb
end Go.Proofs.YtecnijnmgdfdhaaGreat

namespace Go.Proofs.YtecnijnmgdfdhaaGreat
namespace Tb
open Go.RowKit Tr
open Ky (less)
attribute [local go_sem] Oper.semAt_some
theorem results_bool {fn : Func} {t : Tmp} (h : fn.results = #[.cell t 4]) (tmps : Array Value) (w : World) (b : Nat) (v : Value) (ht : tmps[t]?.getD undef = .pointer (some ⟨b, 0, none⟩)) (hc : w.cell? ⟨b, 0, none⟩ = some v) : (results fn tmps).run Tryz.prog w = .ok v w := by
 simp only [results, h]
 simp [ht, go_sem, hc]
section
variable {B : Nat} {w0 w V : World} {X Y : List Rs} {tb most o : Nat} {L : List Pr}
theorem put_len2 {v : Int} {k : Str} (hk : Ks.okKey k = true) : 9 ≤ (Ky.put v k).length ∧ (Ky.put v k).length ≤ 24 := by
 unfold Ky.put
 rw [List.length_append, Ky.enc_length]
 have := of_decide_eq_true hk
 omega
theorem okTk_put {v : Int} {k : Str} (hk : Ks.okKey k = true) : okTk (Ky.put v k) = true := by
 have := put_len2 (v := v) hk
 exact decide_eq_true (by omega)
set_option maxHeartbeats 1000000 in
theorem own_has (h : Own B w0 (TabR tb most o L :: X) w) (c : Nat) (hc : c < 4) {p : Pr} (hp : p ∈ L) :
  Calls Tryz.prog 63 #[ptrV tb, .int .i64 c, Ks.entV (col (decT p.2) c) p.1] w fun e V => e = .returned (.bool true) ∧ Below w.heap.size w V := by
 obtain ⟨ok, b, hS⟩ := own_tab h
 have hv := ok.ok.col hp c
 have hk := (ok.ok p hp).1
 have hg : get (ent c p) (idx c L) = some [] := (mem_get (idx_sorted c L)).2 (mem_idx.2 ⟨rfl, p, hp, rfl⟩)
 have hb := al1 w (.cells #[.int .i64 (col (decT p.2) c), .string ⟨p.1.toArray⟩] 119)
 obtain ⟨W, hW⟩ : ∃ W, w.alloc (.cells #[.int .i64 (col (decT p.2) c), .string ⟨p.1.toArray⟩] 119) = W := ⟨_, rfl⟩
 have y0 : W.cell? ⟨w.heap.size, 0, none⟩ = some (.int .i64 (col (decT p.2) c)) := by rw [← hW]; simp
 have y1 : W.cell? ⟨w.heap.size, 1, none⟩ = some (.string ⟨p.1.toArray⟩) := by rw [← hW]; simp
 rw [hW] at hb
 have HP := Lib.hid (fun V => Ks.put_good (col (decT p.2) c) hv p.1 V hk)
 have HIx := Lib.hid (fun V (hb : Below w.heap.size w V) => index_any c hc (hS.later hb))
 have HG := Lib.hid (fun V (hb : Below w.heap.size w V) => own_tget (c + 1) (by omega) (ent c p) (hS.later hb))
 have hc0 : getC (ent c p) (tabLs L (c + 1)) = 0 := by
  show getC (ent c p) (idx c L) = 0
  unfold getC cdel ent at *
  rw [okTk_put hk, hg]; rfl
 rw [hc0] at HG
 obtain ⟨go, hgo⟩ : ∃ x, getO (ent c p) (tabLs L (c + 1)) = x := ⟨_, rfl⟩
 rw [hgo] at HG
 unfold ent at HG
 obtain ⟨ks, hks⟩ : ∃ ks, Ky.put (col (decT p.2) c) p.1 = ks := ⟨_, rfl⟩
 rw [hks] at HG HP
 have HB := Lib.hid hb
 clear h hS ok hv hk hg hb hc0 hgo hks hc hp
 obtain ⟨pk, pv⟩ := p
 obtain ⟨v, hv⟩ : ∃ v, col (decT pv) c = v := ⟨_, rfl⟩
 simp only [hv] at HP y0 y1 hW ⊢
 clear hv
 go_enter Tryz.func63, Tryz.ntmps63
 go_wp2_with (first
  | (go_at_call 91; refine (HP.out _).mono ?_; rintro e V1 ⟨rfl, hb⟩; have H1 := Lib.hid (HB.out.trans (hb.mono HB.out.size)); clear hb)
  | (go_at_call 57; refine (HIx.out _ H1.out).mono ?_; rintro e V2 ⟨rfl, rfl⟩)
  | (go_at_call 90; refine (HG.out _ H1.out).mono ?_; rintro e V3 ⟨rfl, hb⟩; have H3 := Lib.hid (H1.out.trans (hb.mono H1.out.size)); clear hb))
 go_ret
 exact ⟨rfl, H3.out⟩
def Still2 (W0 : World) (K : Nat → Prop) (pre : List Pr) (W : World) : Prop := Fr noCells W0 W ∧ ∀ k, K k → W0.heap.size ≤ k ∧ k < W.heap.size
theorem Still2.clos {W0 : World} : Clos (Still2 W0) := by
 intro K K' pre W W' ⟨h1, h2⟩ hf hK
 refine ⟨h1.trans hf (fun b o h => .inr (h2 b h).1), fun k hk => ?_⟩
 have := hf.size
 have := h1.size
 rcases hK k hk with h | h
 ·have := h2 k h; omega
 ·omega
theorem Still2.low {W0 W : World} {K : Nat → Prop} {pre : List Pr} (h : Still2 W0 K pre W) : Below W0.heap.size W0 W := h.1.below (Nat.le_refl _) (fun _ _ h => h.elim)
set_option maxHeartbeats 4000000 in
set_option maxRecDepth 100000 in
theorem own_tabCheck (h : Own B w0 (TabR tb most o L :: X) w) :
  Calls Tryz.prog 30 #[ptrV tb] w fun e V => e = .returned (.bool true) ∧ Below w.heap.size w V := by
 obtain ⟨ok, b, hS⟩ := own_tab h
 have hs : Sorted L := own_tabSorted h
 have hb0 : Below w.heap.size w ((w.alloc (.cells #[ptrV tb] 29)).alloc (.cells #[.bool false] 4)) := (al1 w _).trans ((al1 (w.alloc (.cells #[ptrV tb] 29)) _).mono (by simp))
 obtain ⟨W, hW⟩ : ∃ W, (w.alloc (.cells #[ptrV tb] 29)).alloc (.cells #[.bool false] 4) = W := ⟨_, rfl⟩
 have s1 : W.heap.size = w.heap.size + 2 := by rw [← hW]; simp
 have x0 : W.cell? ⟨w.heap.size, 0, none⟩ = some (ptrV tb) := by rw [← hW]; simp
 have x2 : W.cell? ⟨w.heap.size + 1, 0, none⟩ = some (.bool false) := by rw [← hW]; simp
 have x3 : W.frozen? ⟨w.heap.size + 1, 0, none⟩ = false := by rw [← hW]; simp
 rw [hW] at hb0
 have HX : Hid (∀ V, Below W.heap.size W V → V.cell? ⟨w.heap.size, 0, none⟩ = some (ptrV tb) ∧ V.cell? ⟨w.heap.size + 1, 0, none⟩ = some (.bool false) ∧ V.frozen? ⟨w.heap.size + 1, 0, none⟩ = false) := Lib.hid (fun V hb => ⟨old_cell x0 hb, old_cell x2 hb, (hb.frozen (p := ⟨w.heap.size + 1, 0, none⟩) (block_of_cell x2)).trans x3⟩)
 have HEnd : Hid (∀ V, Below W.heap.size W V → Below w.heap.size w (V.setCell ⟨w.heap.size + 1, 0, none⟩ (.bool true))) := Lib.hid (fun V h => (hb0.trans (h.mono hb0.size)).setCell (p := ⟨w.heap.size + 1, 0, none⟩) (Nat.le_succ _) _)
 obtain ⟨N, hN⟩ : ∃ N, L.length = N := ⟨_, rfl⟩
 have HIx := Lib.hid (fun V (hb : Below W.heap.size W V) c hc => index_any c hc (hS.later (hb0.trans (hb.mono hb0.size))))
 have HTL : Hid (∀ V, Below W.heap.size W V → ∀ c, c < 4 → Calls Tryz.prog 54 #[ptrV (b (c + 1))] V fun e V2 => e = .returned (.int .i64 (N : Nat)) ∧ V = V2) := Lib.hid (fun V hb c hc => by
  have := own_tlen (c + 1) (by omega) (hS.later (hb0.trans (hb.mono hb0.size)))
  rwa [show (tabLs L (c + 1)).length = N from (idx_len ok.ok hs c).trans hN] at this)
 have HLen : Hid (∀ V, Below W.heap.size W V → Calls Tryz.prog 26 #[ptrV tb] V fun e V2 => e = .returned (.int .i64 (N : Nat)) ∧ V = V2) := Lib.hid (fun V hb => by rw [← hN]; exact own_tabLen (h.later (hb0.trans (hb.mono hb0.size))))
 have HAll := Lib.hid (fun V (hb : Below W.heap.size W V) => own_tabAll (h.later (hb0.trans (hb.mono hb0.size))))
 have HHas := Lib.hid (fun V (hb : Below W.heap.size W V) c hc p hp => own_has (h.later (hb0.trans (hb.mono hb0.size))) c hc (p := p) hp)
 have HOk := Lib.hid (And.intro ok s1)
 clear h hS ok hs hb0 s1 hN
 refine calls_marks Tryz.func30 rfl ?_
 simp only [Tryz.ntmps30, List.size_toArray, List.length_cons, List.length_nil, Nat.reduceAdd, Nat.reduceSub, Array.replicate_succ, Array.replicate_zero, List.push_toArray, List.append_toArray, List.nil_append, List.cons_append]
 refine wpIn_wide.2 ?_
 go_wp2
 clear x0 x2 x3
 go_loopw [9] (fun i wr => ∃ (j : Nat), j ≤ 4 ∧ i = .int .i64 j ∧ Hid (Below W.heap.size W wr)) (fun i _ => 4 - (intOf i).toNat)
 case atStart => exact ⟨0, by omega, rfl, Lib.hid (Below.refl _ _)⟩
 case round =>
  obtain ⟨j, hj, rfl, HJ⟩ := hrel
  have k0 : (0 : Int) ≤ (j : Int) := by omega
  obtain ⟨y0, y2, y3⟩ := HX.out _ HJ.out
  by_cases hlt : j < 4
  ·have k1 : (j : Int) < 4 := by omega
   have HD := Lib.hid (fun n => HJ.out.trans (below_drewN wr n |>.mono HJ.out.size))
   go_wp2
   go_quiet (first
    | (go_at_call 57; refine Calls.quiet_of_same ((HIx.out _ (HD.out _) j hlt).mono (fun e V h => ⟨h.1, h.2.symm⟩)))
    | (go_at_call 54; refine Calls.quiet_of_same ((HTL.out _ (HD.out _) j hlt).mono (fun e V h => ⟨h.1, h.2.symm⟩)))
    | (go_at_call 26; refine Calls.quiet_of_same ((HLen.out _ (HD.out _)).mono (fun e V h => ⟨h.1, h.2.symm⟩))))
   go_wp2
   go_roundw
   case rel => exact ⟨j + 1, by omega, by go_num, Lib.hid (HD.out _)⟩
   case measure => simp [intOf]; omega
  ·obtain rfl : j = 4 := by omega
   have k1 : ¬ ((4 : Nat) : Int) < 4 := by omega
   go_wp2_with (go_at_call 51; refine (HAll.out _ HJ.out).mono ?_; rintro e V ⟨Bn, rfl, hAt, hb⟩; have HV := Lib.hid (And.intro hAt.out (HJ.out.trans (hb.mono HJ.out.size))); clear hAt hb)
   obtain ⟨R, hR1, hR2⟩ := HV.out.1.tells HOk.out.1.ok (by have := HOk.out.1.len; have := HOk.out.1.hi; omega)
   have HRr := Lib.hid (And.intro hR1 hR2)
   clear hR1 hR2 y0 y2 y3
   refine (wpIn_wide (n := 3)).1 ?_
   refine' wpIn_range_box (by omega) (gf := 80) (lb := #[.pointer (some ⟨Bn, 0, none⟩)]) rfl (enters_any Tryz.func80 (by kernel_rfl) rfl) (encs := rowE) (stops := True) (xs := L) (R := R) (K0 := fun _ => False)
    (fun o1 o2 => HRr.out.2 _ ((al1 V o1).trans ((al1 (V.alloc o1) o2).mono (by simp)))) (fun x => rfl) (fun k hk => (HRr.out.1 k hk).2) (fun k hk => hk.elim)
    (Still2 V) (fun _ _ _ _ => False) Still2.clos (fun _ _ _ _ _ _ h _ _ => h) (.inl trivial) ⟨Fr.refl _ _, fun _ h => h.elim⟩
    (fun x => .cells #[.int .i64 (decT x.2).1, .int .i64 (decT x.2).2.1, .int .i64 (decT x.2).2.2.1, .int .i64 (decT x.2).2.2.2] 41) (fun K pre W h k hk => (h.2 k hk).2) _ ?assign ?body ?done ?stop
   case assign =>
    intro l' x W2 K1 hK1
    simp only [rowE, rowW]
    gi_wp2
    obtain ⟨r, hr⟩ : ∃ r, W2.heap.size = r := ⟨_, rfl⟩
    rw [hr] at hK1 ⊢
    exact hK1
   case body =>
    rintro l' r K pre x post W1 hx _ hI hbox hrK hrR hrS
    have hxm : x ∈ L := by rw [hx]; simp
    have HL1 := Lib.hid (HV.out.2.trans (hI.low.mono HV.out.2.size))
    have HZ : Hid (∀ i, i < 4 → W1.cell? ⟨r, i, none⟩ = some (.int .i64 (col (decT x.2) i))) := Lib.hid (fun i hi => by
     rw [cell_of_row W1 r i _ _ _ hbox]
     have : i = 0 ∨ i = 1 ∨ i = 2 ∨ i = 3 := by omega
     rcases this with rfl | rfl | rfl | rfl <;> rfl)
    have HH := Lib.hid (fun V2 (hb : Below W1.heap.size W1 V2) c hc => HHas.out V2 (HL1.out.trans (hb.mono HL1.out.size)) c hc x hxm)
    have HI := Lib.hid hI
    have HXX := Lib.hid (fun V2 (hb : Below W1.heap.size W1 V2) => HX.out V2 (HL1.out.trans (hb.mono HL1.out.size)))
    clear hx hxm hI hbox hrK hrR hrS
    obtain ⟨xk, xv⟩ := x
    obtain ⟨⟨r0, r1, r2, r3⟩, hr4⟩ : ∃ r4, decT xv = r4 := ⟨_, rfl⟩
    simp only [hr4] at HZ HH ⊢
    clear hr4
    gi_wp2
    gi_loopg [24] 4 (fun k cv wr => ∃ (j : Nat), j + k = 4 ∧ cv = .int .i64 j ∧ Hid (Below W1.heap.size W1 wr))
    case atStart => exact ⟨0, by omega, rfl, Lib.hid (Below.refl _ _)⟩
    case round =>
     obtain ⟨j, hj, rfl, HJ2⟩ := hrel
     have k0 : (0 : Int) ≤ (j : Int) := by omega
     by_cases hlt : j < 4
     ·have k1 : (j : Int) < 4 := by omega
      have z0 := old_cell (HZ.out j hlt) HJ2.out
      obtain ⟨y0, _, _⟩ := HXX.out _ HJ2.out
      have HH2 := Lib.hid (HH.out wr.drew (HJ2.out.trans (below_drewN wr 1 |>.mono HJ2.out.size)) j hlt)
      obtain ⟨cj, hcj⟩ : ∃ cj, col (r0, r1, r2, r3) j = cj := ⟨_, rfl⟩
      rw [hcj] at z0 HH2
      clear hcj
      gi_wp2
      refine wpIn_region_still_tail 7 (fun _ => trivial) rfl (fun _ _ _ _ h => calls_round l' h) (by kernel_rfl) (by kernel_rfl) (by kernel_rfl) ?_
      simp only [List.take_succ_cons, List.take_zero, List.drop_succ_cons, List.drop_zero]
      repeat ((with_reducible refine wpStill_step (fun K hK => ?_)); go_simp; (with_reducible refine hK _ ?_); clear hK K)
      with_reducible refine wpStill_nil ?_
      gi_wp2_with (refine ⟨trivial, ?_⟩; gi_at_call 63; refine (calls_round l' HH2.out).mono ?_; rintro e V5 ⟨rfl, hb⟩; have H5 := Lib.hid (HJ2.out.trans ((below_drewN wr 1 |>.mono HJ2.out.size).trans (hb.mono HJ2.out.size))); clear hb)
      gi_roundg (gk - 1)
      case rel => exact ⟨j + 1, by omega, by go_num, H5⟩
      case measure => omega
     ·obtain rfl : j = 4 := by omega
      have k1 : ¬ ((4 : Nat) : Int) < 4 := by omega
      gi_wp2
      refine ⟨Fr.ofBelow HJ2.out _, ?_⟩
      exact Still2.clos _ K _ _ _ HI.out (Fr.ofBelow HJ2.out _) (fun k h => .inl h)
   case stop =>
    intro D c K pre x post W _ h
    exact h.elim
   case done =>
    rintro D K W3 hI _ hKD hsD hDef
    have H3 := Lib.hid (And.intro (HV.out.2.trans (hI.low.mono HV.out.2.size)) (And.intro hsD hDef))
    obtain ⟨y0, y2, y3⟩ := HX.out _ H3.out.1
    clear hI hKD hsD hDef y0
    gi_wp2
    go_wp2
    obtain ⟨hb3, hsD, hDef⟩ := H3.out
    have hVs := HV.out.2.size
    have s1 := HOk.out.2
    have hne : D ≠ w.heap.size + 1 := by omega
    refine leave_marks [D] _ (by simp) (fun E hE => ?_) (fun W' hf => ?_)
    ·simp at hE; subst hE
     exact (Below.heap_setCell W3 ⟨w.heap.size + 1, 0, none⟩ (.bool true) E hne).trans hDef
    ·have hc : W'.cell? ⟨w.heap.size + 1, 0, none⟩ = some (.bool true) := cell_fr hf (show (W3.setCell ⟨w.heap.size + 1, 0, none⟩ (.bool true)).cell? ⟨w.heap.size + 1, 0, none⟩ = some (.bool true) from World.cell?_setCell_same' _ _ _ (by rw [y2]; rfl)) (by simp; omega)
     have b4 := HEnd.out W3 hb3
     exact ⟨_, results_bool rfl _ W' (w.heap.size + 1) (.bool true) rfl hc, rfl, b4.trans (hf.below (B := w.heap.size) b4.size (fun k x e => by simp at e; subst e; omega))⟩
end
end Tb
end Go.Proofs.YtecnijnmgdfdhaaGreat
