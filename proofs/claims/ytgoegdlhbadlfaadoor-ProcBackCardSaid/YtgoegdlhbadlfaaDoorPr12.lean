/- Package proc: parse. -/
import Derived.Test.YtgoegdlhbadlfaaDoorPr11
namespace Go.Proofs.YtgoegdlhbadlfaaDoor
namespace Pc
open Go.RowKit
theorem splitK_le (sep : Str) (save : Nat) : ∀ (k : Nat) (s : Str), (Lib.splitK sep save k s).length ≤ k + 1
  | 0, _ => Nat.le_refl _
  | k + 1, s => by
    unfold Lib.splitK
    split
    · simp
    · have := splitK_le sep save k (s.drop ((Lib.index s sep).toNat + sep.length))
      simp only [List.length_cons]; omega
theorem hasS_size (m : Nat) : (⟨(hasS m).toArray⟩ : ByteArray).size = (hasN m).length := by show (hasS m).toArray.size = _; unfold hasS; simp
theorem BoxAt.new (w : World) (x : OpP) : BoxAt (w.alloc (.cells (opV x).toArray 28)) w.heap.size x := by
  exact heap_alloc_new w _
/-- What holds while a line's fields are read. -/
structure PSt (w W : World) (ps : List Str) (p : Str) (m : Nat) (x : OpP) : Prop where
  low : Below w.heap.size w W
  size : w.heap.size + 4 ≤ W.heap.size
  res : BoxAt W w.heap.size zeroP
  parts : ∀ (i : Nat) q, (p :: ps)[i]? = some q → W.cell? ⟨w.heap.size + 1, i, none⟩ = some (.string ⟨q.toArray⟩)
  op : BoxAt W (w.heap.size + 2) x
  fn : W.cell? ⟨w.heap.size + 3, 0, none⟩ = some (.pointer (some ⟨w.heap.size + 2, 0, none⟩))
theorem PSt.later {w W V : World} {ps : List Str} {p : Str} {m : Nat} {x : OpP} (h : PSt w W ps p m x) {B : Nat} (hb : Below B W V) (hB : w.heap.size + 4 ≤ B) : PSt w V ps p m x :=
  ⟨h.low.trans (hb.mono (by omega)), Nat.le_trans h.size hb.size, h.res.later hb (by omega), fun i q hq => (hb.cell (p := ⟨w.heap.size + 1, i, none⟩) (by show w.heap.size + 1 < B; omega)).trans (h.parts i q hq), h.op.later hb (by omega),
    (hb.cell (p := ⟨w.heap.size + 3, 0, none⟩) (by show w.heap.size + 3 < B; omega)).trans h.fn⟩
theorem PSt.set {w W : World} {ps : List Str} {p : Str} {m : Nat} {x : OpP} (h : PSt w W ps p m x) {f : Nat} (hf : f < 4) (v : Int) : PSt w (W.setCell ⟨w.heap.size + 2, f + 1, none⟩ (.int .i64 v)) ps p m (setF x f v) := by
  refine ⟨h.low.setCell (by show w.heap.size ≤ w.heap.size + 2; omega) _, by rw [World.size_setCell]; exact h.size, ?_, fun i q hq => ?_, h.op.set hf v, ?_⟩
  · unfold BoxAt
    rw [Below.heap_setCell _ _ _ _ (by show w.heap.size ≠ w.heap.size + 2; omega)]
    exact h.res
  · rw [World.cell?_setCell_far _ _ _ _ (by show w.heap.size + 2 ≠ w.heap.size + 1; omega)]
    exact h.parts i q hq
  · rw [World.cell?_setCell_far _ _ _ _ (by show w.heap.size + 2 ≠ w.heap.size + 3; omega)]
    exact h.fn
theorem below5 {B : Nat} {a w : World} (h : Below B a w) {P : Nat} (hP : B ≤ P) (u0 u1 u2 u3 u4 : Value) : Below B a (((((w.setCell ⟨P, 0, none⟩ u0).setCell ⟨P, 1, none⟩ u1).setCell ⟨P, 2, none⟩ u2).setCell ⟨P, 3, none⟩ u3).setCell ⟨P, 4, none⟩ u4) :=
  ((((h.setCell hP _).setCell hP _).setCell hP _).setCell hP _).setCell hP _
set_option maxRecDepth 100000 in
set_option maxHeartbeats 4000000 in
theorem parse_any (line : Str) (hs : line.length ≤ 1000000) (w : World) (hL : Laid w) :
    Calls Tryd.prog 18 #[.string ⟨line.toArray⟩] w fun e V => e = .returned (ansP (parseP line)) ∧ Below w.heap.size w V := by
  by_cases h : Lib.hasSuffix line [10] = true
  case neg => exact parse_short line hs w (by simpa using h)
  have HC := Lib.hid (fun W => cut_any line hs W)
  rw [h] at HC
  have hG := hL.size
  have HL := Lib.hid hL
  clear hL
  obtain ⟨body, hbody⟩ : ∃ body, Lib.trimSuffix line [10] = body := ⟨_, rfl⟩
  have hbl : body.length ≤ 1000000 := by
    rw [← hbody]
    unfold Lib.trimSuffix
    split <;> first | exact hs | (rw [List.length_take]; omega)
  have hpp : parseP line = partsOp (partsP body) := by unfold parseP; rw [if_pos h, hbody]
  rw [hbody] at HC
  rw [hpp]
  clear hpp hbody h
  obtain ⟨p, ps, hparts⟩ : ∃ p ps, partsP body = p :: ps := by
    have := splitK_pos [32] 0 (min 6 (body.length + 1) - 1) body
    cases h : partsP body with
    | nil => unfold partsP at h; rw [h] at this; simp at this
    | cons p ps => exact ⟨p, ps, rfl⟩
  have HS : Hid (∀ W, Below w.heap.size w W → W.heap.size = w.heap.size + 1 → Calls Tryd.prog 28 #[.string ⟨body.toArray⟩, .string ⟨#[32]⟩, .int .i64 6] W fun e V => ∃ c, e = .returned (.slice (some ⟨w.heap.size + 1, 0, none⟩) (ps.length + 1) c) ∧ ps.length + 1 ≤ c ∧
      (∀ (i : Nat) q, (p :: ps)[i]? = some q → V.cell? ⟨w.heap.size + 1, i, none⟩ = some (.string ⟨q.toArray⟩)) ∧ Below W.heap.size W V ∧ V.heap.size = w.heap.size + 2) := Lib.hid (fun W hb hz => by
    refine (splitN_any body hbl W (HL.out.later hb hG)).mono ?_
    rintro e V ⟨c, rfl, h1, h2, h3, h4⟩
    rw [hparts, hz] at h2
    rw [hparts] at h1 ⊢
    exact ⟨c, by rw [hz]; rfl, h1, h2, h3, by omega⟩)
  have HNm := Lib.hid (fun W hb => named_any p W (HL.out.later hb hG))
  have hm16 := namedP_lt p
  have hpl : ps.length ≤ 5 := by
    have := splitK_le [32] 0 (min 6 (body.length + 1) - 1) body
    have e : (partsP body).length = ps.length + 1 := by rw [hparts]; rfl
    unfold partsP at e
    omega
  rw [hparts]
  clear hparts
  have hres : partsOp (p :: ps) = if namedP p = 0 then none else if ps.length = (hasN (namedP p)).length then parseF (hasN (namedP p)) ps ((namedP p : Int), 0, 0, 0, 0) else none := rfl
  have HRes := Lib.hid hres
  clear hres
  obtain ⟨m, hm⟩ : ∃ m, namedP p = m := ⟨_, rfl⟩
  rw [hm] at HNm hm16 HRes
  clear hm
  go_enter Tryd.func18, Tryd.ntmps18
  go_upto_region 6 with (first
    | (go_at_call 27; refine (HC.out _).mono ?_; rintro _ W ⟨rfl, rfl⟩)
    | (go_at_call 28; refine (HS.out _ (al1 _ _) (by simp)).mono ?_; rintro _ W ⟨c, rfl, hc, hps, hbW, hsW⟩; have hp0 := hps 0 p rfl; have HW := Lib.hid (And.intro hps hbW); clear hps hbW)
    | (go_at_call 29; refine (HNm.out _ ((al1 w _).trans (HW.out.2.mono (by simp)))).mono ?_; rintro _ U ⟨rfl, rfl⟩))
  apply wp_lift
  intro V hV
  have hbV : Below W.heap.size W V := by rw [hV]; exact al1 _ _
  have hsV : V.heap.size = w.heap.size + 3 := by rw [hV]; simp; omega
  have hop : BoxAt V (w.heap.size + 2) ((m : Int), 0, 0, 0, 0) := by
    have := BoxAt.new W ((m : Int), 0, 0, 0, 0)
    rw [hsW] at this
    rw [hV]; exact this
  have hres0 : BoxAt V w.heap.size zeroP := ((BoxAt.new w zeroP).later HW.out.2 (by simp)).later hbV (by omega)
  have hb0 : Below w.heap.size w V := (al1 w _).trans ((HW.out.2.mono (by simp)).trans (hbV.mono (by omega)))
  have v0 : V.cell? ⟨w.heap.size + 2, 0, none⟩ = some (.int .i64 m) := hop.op 0 _ (by omega) rfl
  have HB0 := Lib.hid hb0
  have HP := Lib.hid (And.intro hop hres0)
  have HPs := Lib.hid (fun (i : Nat) q hq => (hbV.cell (p := ⟨w.heap.size + 1, i, none⟩) (by show w.heap.size + 1 < W.heap.size; omega)).trans (HW.out.1 i q hq))
  have HLV := Lib.hid (HL.out.later hb0 hG)
  clear hV hbV hop hres0 hb0 HW hp0
  by_cases hm0 : m = 0
  · have HRe : Hid (partsOp (p :: ps) = none) := Lib.hid (by rw [HRes.out, if_pos hm0])
    clear HRes
    subst hm0
    have HR0 := HP.out.2
    have r0 := HR0.op 0 _ (by omega) rfl
    have r1 := HR0.op 1 _ (by omega) rfl
    have r2 := HR0.op 2 _ (by omega) rfl
    have r3 := HR0.op 3 _ (by omega) rfl
    have r4 := HR0.op 4 _ (by omega) rfl
    have f0 := HR0.free (i := 0) (by omega)
    have f1 := HR0.free (i := 1) (by omega)
    have f2 := HR0.free (i := 2) (by omega)
    have f3 := HR0.free (i := 3) (by omega)
    have f4 := HR0.free (i := 4) (by omega)
    clear HR0
    go_wp2
    (try simp only [Exit.inBlock, Exit.then])
    refine bodyPost_ret (by simp [results, Tryd.results18, go_sem, r0, r1, r2, r3, r4]; try rfl) rfl ?_
    exact ⟨by rw [HRe.out]; rfl, below5 HB0.out (Nat.le_refl _) _ _ _ _ _⟩
  · have hsh : V.cell? ⟨0, m * 2 + 1, none⟩ = some (.string ⟨(hasS m).toArray⟩) := HLV.out.has m hm16
    have hsz := hasS_size m
    have mi0 : (0 : Int) ≤ (m : Int) := by omega
    have mi1 : (m : Int) < 16 := by omega
    have hm0' : ((m : Int) == 0) = false := by rw [beq_eq_false_iff_ne]; omega
    have hw64 : ∀ k : Nat, k ≤ 5 → wrap64 (k : Int) = (k : Int) := fun k hk => by unfold wrap64; omega
    by_cases hlen : ps.length = (hasN m).length
    case neg =>
      have HRe : Hid (partsOp (p :: ps) = none) := Lib.hid (by rw [HRes.out, if_neg hm0, if_neg hlen])
      have hlen' : ((ps.length : Int) != ((hasN m).length : Int)) = true := by rw [bne_iff_ne]; omega
      have HR0 := HP.out.2
      have r0 := HR0.op 0 _ (by omega) rfl
      have r1 := HR0.op 1 _ (by omega) rfl
      have r2 := HR0.op 2 _ (by omega) rfl
      have r3 := HR0.op 3 _ (by omega) rfl
      have r4 := HR0.op 4 _ (by omega) rfl
      have f0 := HR0.free (i := 0) (by omega)
      have f1 := HR0.free (i := 1) (by omega)
      have f2 := HR0.free (i := 2) (by omega)
      have f3 := HR0.free (i := 3) (by omega)
      have f4 := HR0.free (i := 4) (by omega)
      clear HR0 HRes
      go_wp2
      (try simp only [Exit.inBlock, Exit.then])
      refine bodyPost_ret (by simp [results, Tryd.results18, go_sem, r0, r1, r2, r3, r4]; try rfl) rfl ?_
      exact ⟨by rw [HRe.out]; rfl, below5 HB0.out (Nat.le_refl _) _ _ _ _ _⟩
    case pos =>
      have HRe : Hid (partsOp (p :: ps) = parseF (hasN m) ps ((m : Int), 0, 0, 0, 0)) := Lib.hid (by rw [HRes.out, if_neg hm0, if_pos hlen])
      have hlen' : ((ps.length : Int) != ((hasN m).length : Int)) = false := by rw [bne_eq_false_iff_eq]; omega
      have hl4 := hasN_len m
      have HLT := Lib.hid (hasN_lt m)
      clear HRes
      have v1 := HLV.out.size
      go_wp2_with (go_at_call 12; refine (fields_any _ _).mono ?_; rintro _ U ⟨rfl, hU⟩; have hsU : U.heap.size = w.heap.size + 4 := (by rw [← hU]; simp; omega); have hbU : Below V.heap.size V U := (by rw [← hU]; exact al1 _ _); have hq : U.cell? ⟨w.heap.size + 3, 0, none⟩ = some (.pointer (some ⟨w.heap.size + 2, 0, none⟩)) := (by rw [← hU, ← hsV]; simp); have HU := Lib.hid (show PSt w U ps p m ((m : Int), 0, 0, 0, 0) from ⟨HB0.out.trans (hbU.mono (by omega)), by omega, HP.out.2.later hbU (by omega), fun i q hq => (hbU.cell (p := ⟨w.heap.size + 1, i, none⟩) (by show w.heap.size + 1 < V.heap.size; omega)).trans (HPs.out i q hq), HP.out.1.later hbU (by omega), hq⟩); have HLU := Lib.hid (HLV.out.later hbU v1); have u0 : U.cell? ⟨w.heap.size + 2, 0, none⟩ = some (.int .i64 m) := HU.out.op.op 0 _ (by omega) rfl; have ush : U.cell? ⟨0, m * 2 + 1, none⟩ = some (.string ⟨(hasS m).toArray⟩) := HLU.out.has m hm16; clear hU hbU hq v0 hsh)
      go_loopw [] (fun wr => ∃ (i : Nat) (x : OpP), Hid (wr.heap[w.heap.size + 4]? = some (.stringIter ⟨(hasS m).toArray⟩ i) ∧ i ≤ (hasN m).length ∧ PSt w wr ps p m x ∧ parseF ((hasN m).drop i) (ps.drop i) x = parseF (hasN m) ps ((m : Int), 0, 0, 0, 0))) (fun wr => 5 - wr.iterPos (w.heap.size + 4))
      case atStart =>
        refine ⟨0, ((m : Int), 0, 0, 0, 0), Lib.hid ⟨?_, by omega, ?_, rfl⟩⟩
        · have := World.iter_heap U ⟨(hasS m).toArray⟩ 0
          rw [hsU] at this
          exact this
        · exact HU.out.later (B := U.heap.size) ((Below.refl _ _).alloc (Nat.le_refl _) _) (by omega)
      case round =>
        obtain ⟨i, x, HR⟩ := hrel
        have hil := HR.out.2.1
        by_cases hi : i < (hasN m).length
        · obtain ⟨f, hf⟩ : ∃ f, (hasN m)[i]? = some f := ⟨_, List.getElem?_eq_getElem hi⟩
          obtain ⟨q, hq⟩ : ∃ q, ps[i]? = some q := ⟨_, List.getElem?_eq_getElem (by omega)⟩
          have hf4 : f < 4 := HLT.out f (List.mem_of_getElem? hf)
          have hnx : ∀ ty, (Instr.next (.pointer (some ⟨w.heap.size + 4, 0, none⟩)) true ty).run Tryd.prog wr = _ := fun ty => next_at wr (w.heap.size + 4) (hasS m) i (letter f) ty HR.out.1 (hasS_get hf) (letter_lt f)
          obtain ⟨w1, hw1⟩ : ∃ w1, w1 = wr.iterAt (w.heap.size + 4) ⟨(hasS m).toArray⟩ (i + 1) := ⟨_, rfl⟩
          rw [← hw1] at hnx
          have hit := Lib.iterAt_heap wr (w.heap.size + 4) ⟨(hasS m).toArray⟩ i (i + 1) HR.out.1
          have hb1 := Lib.below_iterAt (Below.refl (w.heap.size + 4) wr) (k := w.heap.size + 4) (Nat.le_refl _) ⟨(hasS m).toArray⟩ (i + 1)
          rw [← hw1] at hit hb1
          have hst := HR.out.2.2.1.later hb1 (Nat.le_refl _)
          have hlt1 : w.heap.size + 4 < w1.heap.size := (Array.getElem?_eq_some_iff.1 hit).1
          have hc1 : w1.cell? ⟨w.heap.size + 1, i + 1, none⟩ = some (.string ⟨q.toArray⟩) := hst.parts (i + 1) q (by simpa using hq)
          have k0 : (0 : Int) ≤ (i : Int) := by omega
          have k1 : (i : Int) < (ps.length : Int) := by omega
          have k2 : i < ps.length := by omega
          have HF : Hid (parseF ((hasN m).drop i) (ps.drop i) x = (numP q).bind fun v => parseF ((hasN m).drop (i + 1)) (ps.drop (i + 1)) (setF x f v)) := Lib.hid (by
            obtain ⟨h1, h2⟩ := List.getElem?_eq_some_iff.1 hf
            obtain ⟨h3, h4⟩ := List.getElem?_eq_some_iff.1 hq
            rw [List.drop_eq_getElem_cons h1, List.drop_eq_getElem_cons h3, h2, h4, parseF])
          have HI := Lib.hid (And.intro hit hst)
          have HNu := Lib.hid (number_any q w1 (HL.out.later hst.low hG))
          clear hw1 hit hb1 hst hf hq
          cases hnum : numP q with
          | none =>
            rw [hnum] at HNu HF
            have HZ : Hid (partsOp (p :: ps) = none) := Lib.hid (by rw [HRe.out, ← HR.out.2.2.2, HF.out]; rfl)
            clear hnum HF
            go_wp2_with (go_at_call 30; refine HNu.out.mono ?_; rintro _ X ⟨rfl, hbX⟩; have HX := Lib.hid (HI.out.2.later hbX (by omega)); have r0 := HX.out.res.op 0 _ (by omega) rfl; have r1 := HX.out.res.op 1 _ (by omega) rfl; have r2 := HX.out.res.op 2 _ (by omega) rfl; have r3 := HX.out.res.op 3 _ (by omega) rfl; have r4 := HX.out.res.op 4 _ (by omega) rfl; have f0 := HX.out.res.free (i := 0) (by omega); have f1 := HX.out.res.free (i := 1) (by omega); have f2 := HX.out.res.free (i := 2) (by omega); have f3 := HX.out.res.free (i := 3) (by omega); have f4 := HX.out.res.free (i := 4) (by omega); clear hbX)
            (try simp only [Exit.inBlock, Exit.then])
            refine bodyPost_ret (by simp [results, Tryd.results18, go_sem, r0, r1, r2, r3, r4]; try rfl) rfl ?_
            exact ⟨by rw [HZ.out]; rfl, below5 HX.out.low (Nat.le_refl _) _ _ _ _ _⟩
          | some v =>
            rw [hnum] at HNu HF
            have HF2 : Hid (parseF ((hasN m).drop (i + 1)) (ps.drop (i + 1)) (setF x f v) = parseF (hasN m) ps ((m : Int), 0, 0, 0, 0)) := Lib.hid (by rw [← HR.out.2.2.2, HF.out]; rfl)
            clear hnum HF
            go_wp2_with (first
              | (go_at_call 30; refine HNu.out.mono ?_; rintro _ X ⟨rfl, hbX⟩; have HX := Lib.hid (And.intro (HI.out.2.later hbX (by omega)) (And.intro (show X.heap[w.heap.size + 4]? = some (.stringIter ⟨(hasS m).toArray⟩ (i + 1)) from (hbX.block _ hlt1).trans HI.out.1) hbX)); have g0 := HX.out.1.fn; have g1 := HX.out.1.op.op.fld hf4; have g2 := HX.out.1.op.free (i := f + 1) (by omega); clear hbX)
              | (go_at_call 22; refine (fieldC_any f (w.heap.size + 2) _ hf4 _ g0).mono ?_; rintro _ Y ⟨rfl, rfl⟩))
            have HY : Hid ((X.setCell ⟨w.heap.size + 2, f + 1, none⟩ (.int .i64 v)).heap[w.heap.size + 4]? = some (.stringIter ⟨(hasS m).toArray⟩ (i + 1))) := Lib.hid ((Below.heap_setCell _ _ _ _ (by show w.heap.size + 4 ≠ w.heap.size + 2; omega)).trans HX.out.2.1)
            go_roundw
            case rel => exact ⟨i + 1, setF x f v, Lib.hid ⟨HY.out, by omega, HX.out.1.set hf4 v, HF2.out⟩⟩
            case measure =>
              have h1 := HY.out
              have h2 := HR.out.1
              simp only [Option.getD_some] at *
              simp only [World.iterPos, h1, h2]
              omega
        · obtain rfl : i = (hasN m).length := by omega
          have hnx : ∀ ty, (Instr.next (.pointer (some ⟨w.heap.size + 4, 0, none⟩)) true ty).run Tryd.prog wr = _ := fun ty => next_end wr (w.heap.size + 4) (hasS m) _ ty HR.out.1 (by unfold hasS; simp)
          have HZ : Hid (partsOp (p :: ps) = some x) := Lib.hid (by rw [HRe.out, ← HR.out.2.2.2, List.drop_length]; rfl)
          have HX := Lib.hid HR.out.2.2.1
          have r0 := HX.out.res.op 0 _ (by omega) rfl
          have r1 := HX.out.res.op 1 _ (by omega) rfl
          have r2 := HX.out.res.op 2 _ (by omega) rfl
          have r3 := HX.out.res.op 3 _ (by omega) rfl
          have r4 := HX.out.res.op 4 _ (by omega) rfl
          have f0 := HX.out.res.free (i := 0) (by omega)
          have f1 := HX.out.res.free (i := 1) (by omega)
          have f2 := HX.out.res.free (i := 2) (by omega)
          have f3 := HX.out.res.free (i := 3) (by omega)
          have f4 := HX.out.res.free (i := 4) (by omega)
          have x0 := HX.out.op.op 0 _ (by omega) rfl
          have x1 := HX.out.op.op 1 _ (by omega) rfl
          have x2 := HX.out.op.op 2 _ (by omega) rfl
          have x3 := HX.out.op.op 3 _ (by omega) rfl
          have x4 := HX.out.op.op 4 _ (by omega) rfl
          go_wp2
          (try simp only [Exit.inBlock, Exit.then])
          refine bodyPost_ret (by simp [results, Tryd.results18, go_sem, r0, r1, r2, r3, r4]; try rfl) rfl ?_
          exact ⟨by rw [HZ.out]; rfl, below5 HX.out.low (Nat.le_refl _) _ _ _ _ _⟩
end Pc
end Go.Proofs.YtgoegdlhbadlfaaDoor
