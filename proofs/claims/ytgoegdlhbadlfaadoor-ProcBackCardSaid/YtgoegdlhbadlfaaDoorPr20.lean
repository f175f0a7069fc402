/- Package proc: Text. -/
import Derived.Test.YtgoegdlhbadlfaaDoorPr16
import Derived.Test.YtgoegdlhbadlfaaDoorPr17
namespace Go.Proofs.YtgoegdlhbadlfaaDoor
namespace Pc
open Go.RowKit
theorem bdAt_below {B b : Nat} {p : Value} {bs : List Value} {w W : World} (h : BdAt B b p bs w) (hb : Below w.heap.size w W) : BdAt B b p bs W := by
  have hlt := h.lt
  obtain ⟨hB, v, hbk, hown, hne⟩ := h
  exact ⟨hB, v, (hb.block b hlt).trans hbk, hown.kept (row := none) ⟨hb.os, hb.tape, hb.output, hb.size, fun k hk _ => hb.block k hk⟩ (by cases hv : v.ownBlock <;> simp), hne⟩
theorem bdF_below {B b : Nat} {bs : List Value} {w W : World} (h : BdF B b bs w) (hb : Below w.heap.size w W) : BdF B b bs W :=
  h.elim (fun x => .inl (bdAt_below x hb)) (fun x => .inr (bdAt_below x hb))
/-- A line as far as field i. -/
def partS (x : OpP) (i : Nat) : Str := wordN x.1.toNat ++ ((hasN x.1.toNat).take i).flatMap fun f => 32 :: Lib.itoa (fld x f)
theorem partS_zero (x : OpP) : partS x 0 = wordN x.1.toNat := by unfold partS; simp
theorem partS_succ {x : OpP} {i f : Nat} (h : (hasN x.1.toNat)[i]? = some f) : partS x (i + 1) = (partS x i ++ [32]) ++ Lib.itoa (fld x f) := by
  unfold partS
  rw [List.take_add_one, h, List.flatMap_append]
  simp
theorem partS_end (x : OpP) : partS x (hasN x.1.toNat).length ++ [10] = lineP x := by
  unfold partS lineP bodyP
  rw [List.take_length]
theorem partS_len {x : OpP} (hf : formedP x = true) (hr : rangedP x = true) (i : Nat) : (partS x i).length ≤ 100 := by
  refine Nat.le_trans ?_ (line_len hf hr)
  unfold partS lineP bodyP
  conv => rhs; rw [← List.take_append_drop i (hasN x.1.toNat)]
  rw [List.flatMap_append]
  simp only [List.length_append]
  omega
theorem text_take {l : List OpP} {k : Nat} {x : OpP} (h : l[k]? = some x) : textP (l.take (k + 1)) = textP (l.take k) ++ lineP x := by
  unfold textP
  rw [List.take_add_one, h, List.flatMap_append]
  simp
theorem text_len {l : List OpP} (h : ∀ x ∈ l, formedP x = true ∧ rangedP x = true) : (textP l).length ≤ l.length * 100 := by
  induction l with
  | nil => exact Nat.le_refl _
  | cons x l ih =>
    have h1 := ih fun y hy => h y (List.mem_cons_of_mem _ hy)
    have h2 := h x (List.mem_cons_self ..)
    have h3 := line_len h2.1 h2.2
    show (lineP x ++ textP l).length ≤ _
    rw [List.length_append, List.length_cons]
    omega
def textR (l : List OpP) : Str := if checkP l = 0 then textP l else []
theorem bytes_str (a s : Str) : Lib.byteCells a ++ Lib.strCells ⟨s.toArray⟩ = Lib.byteCells (a ++ s) := by
  rw [Lib.byteCells_append]; rfl
theorem bytes_one (a : Str) (n : Int) (u : UInt8) (h : n = u.toNat) : Lib.byteCells a ++ [.int .u8 n] = Lib.byteCells (a ++ [u]) := by
  rw [Lib.byteCells_append, h]; rfl
/-- What a round of Text has in memory: the op's box, the pointer to it. -/
def RoundAt (W : World) (P : Nat) (x : OpP) : Prop := BoxAt W P x ∧ W.heap[P + 1]? = some (.cells #[.pointer (some ⟨P, 0, none⟩)] 44 (0, 0))
theorem RoundAt.oth {W W' : World} {P b : Nat} {x : OpP} (h : RoundAt W P x) (ho : Oth b W W') (hP : b < P) : RoundAt W' P x :=
  ⟨ho _ _ h.1 (fun e => by have := Option.some.inj e; omega) (fun c fz e => by cases e), ho _ _ h.2 (fun e => by have := Option.some.inj e; omega) (fun c fz e => by cases e)⟩
theorem RoundAt.iter {W : World} {P q : Nat} {x : OpP} (h : RoundAt W P x) (hq : P + 1 < q) (s : ByteArray) (i : Nat) : RoundAt (W.iterAt q s i) P x :=
  ⟨(Lib.iterAt_other W q P s i (by omega)).trans h.1, (Lib.iterAt_other W q (P + 1) s i (by omega)).trans h.2⟩
theorem RoundAt.below {W W' : World} {P : Nat} {x : OpP} (h : RoundAt W P x) (hb : Below W.heap.size W W') : RoundAt W' P x := by
  have h1 := (Array.getElem?_eq_some_iff.1 h.1).1
  have h2 := (Array.getElem?_eq_some_iff.1 h.2).1
  exact ⟨(hb.block P h1).trans h.1, (hb.block (P + 1) h2).trans h.2⟩
theorem RoundAt.ptr {W : World} {P : Nat} {x : OpP} (h : RoundAt W P x) : W.cell? ⟨P + 1, 0, none⟩ = some (.pointer (some ⟨P, 0, none⟩)) := by
  simp [World.cell?, h.2]
theorem round_made {wo w1 : World} {x : OpP} {m : Nat} (hx : opV x = [.int .i64 (m : Int), .int .i64 x.2.1, .int .i64 x.2.2.1, .int .i64 x.2.2.2.1, .int .i64 x.2.2.2.2])
    (hw1 : (wo.alloc (.cells #[.int .i64 (m : Int), .int .i64 x.2.1, .int .i64 x.2.2.1, .int .i64 x.2.2.2.1, .int .i64 x.2.2.2.2] 28)).alloc (.cells #[.pointer (some ⟨wo.heap.size, 0, none⟩)] 44) = w1) :
    Below wo.heap.size wo w1 ∧ RoundAt w1 wo.heap.size x ∧ w1.cell? ⟨wo.heap.size, 0, none⟩ = some (.int .i64 (m : Int)) := by
  have hro : RoundAt w1 wo.heap.size x := by
    rw [← hw1]
    unfold RoundAt BoxAt
    rw [hx]
    refine ⟨?_, ?_⟩
    · rw [Lib.alloc_old _ _ _ (by simp), heap_alloc_new]
    · have := heap_alloc_new (wo.alloc (.cells #[.int .i64 (m : Int), .int .i64 x.2.1, .int .i64 x.2.2.1, .int .i64 x.2.2.2.1, .int .i64 x.2.2.2.2] 28)) (.cells #[.pointer (some ⟨wo.heap.size, 0, none⟩)] 44)
      rwa [World.size_alloc] at this
  refine ⟨?_, hro, hro.1.op 0 _ (by omega) (by rw [hx]; rfl)⟩
  rw [← hw1]
  exact ((Below.refl _ wo).alloc (Nat.le_refl _) _).alloc (by simp) _
theorem itoa_any (n : Int) (h0 : -big ≤ n) (h1 : n ≤ big) (W : World) (hL : Laid W) : Calls Tryd.prog 15 #[.int .i64 n] W fun e V => e = .returned (.string ⟨(Lib.itoa n).toArray⟩) ∧ Below W.heap.size W V := by
  unfold big at h0 h1
  refine (Sh.strconv_Itoa n (by omega) (by omega) W hL.pow).mono ?_
  rintro e V ⟨rfl, k, os, rfl⟩
  exact ⟨rfl, below_gr W k os⟩
set_option maxHeartbeats 4000000 in
set_option maxRecDepth 100000 in
theorem text_any (l : List OpP) (a : Option Addr) (c : Nat) (w : World) (hL : Laid w) (hrd : Rd w 5 a l.length c (opsV l)) :
    Calls Tryd.prog 7 #[.slice a l.length c] w fun e V => e = .returned (.tuple #[.string ⟨(textR l).toArray⟩, .int .i64 (checkP l)]) ∧ Below w.heap.size w V := by
  have hG := hL.size
  have HL := Lib.hid hL
  have HR := Lib.hid hrd
  have HC := Lib.hid (check_any l a c w hL hrd)
  clear hL hrd
  by_cases h0 : checkP l = 0
  case neg =>
    have ht : textR l = [] := by unfold textR; rw [if_neg h0]
    rw [ht]
    obtain ⟨e, he⟩ : ∃ e, checkP l = e := ⟨_, rfl⟩
    rw [he] at HC h0 ⊢
    clear he ht
    go_enter Tryd.func7, Tryd.ntmps7
    go_wp2_with (go_at_call 10; refine HC.out.mono ?_; rintro _ V1 ⟨rfl, hb⟩)
    go_ret2
    exact ⟨rfl, hb⟩
  case pos =>
    have ht : textR l = textP l := by unfold textR; rw [if_pos h0]
    have HF : Hid (∀ x ∈ l, formedP x = true ∧ rangedP x = true) := Lib.hid (fun x hx => ⟨List.all_eq_true.1 (check_ok h0).2.1 x hx, List.all_eq_true.1 (check_ok h0).2.2.1 x hx⟩)
    have hl64 := (check_ok h0).1
    rw [ht]
    rw [h0] at HC ⊢
    clear ht h0
    go_enter Tryd.func7, Tryd.ntmps7
    go_wp2_with (go_at_call 10; refine HC.out.mono ?_; rintro _ V1 ⟨rfl, hb⟩; have H1 := Lib.hid hb; clear hb)
    obtain ⟨b, hbN⟩ : ∃ b, V1.heap.size = b := ⟨_, rfl⟩
    have HN := Lib.hid hbN
    have hwb : w.heap.size ≤ b := by have := H1.out.size; omega
    rw [hbN]
    clear hbN
    go_loopw [18] (fun d wr => ∃ k : Nat, k ≤ l.length ∧ d = .int .i64 k ∧ Hid (BdF b b (Lib.byteCells (textP (l.take k))) wr ∧ Below b V1 wr ∧ b < wr.heap.size)) (fun d _ => l.length - (intP d).toNat)
    case atStart =>
      refine ⟨0, by omega, rfl, Lib.hid ⟨?_, ?_, ?_⟩⟩
      · have := Lib.IsBuilderF.of (Lib.fresh_isBuilder 41 5 V1)
        rw [HN.out] at this
        exact this
      · have := al1 V1 (.cells #[.pointer none, .slice none 0 0] 41)
        rw [HN.out] at this
        exact this
      · show b < (V1.alloc _).heap.size
        rw [World.size_alloc, HN.out]
        omega
    case round =>
      obtain ⟨k, hk, rfl, HB⟩ := hrel
      obtain ⟨wo, rfl⟩ : ∃ wo : World, wo = wr := ⟨_, rfl⟩
      have HW : Hid (Below w.heap.size w wo) := Lib.hid (H1.out.trans (HB.out.2.1.mono hwb))
      have HLo : Hid (∀ W, Below b V1 W → Laid W) := Lib.hid (fun W hb => (HL.out.later H1.out hG).later hb (by omega))
      have hbs := HB.out.2.2
      by_cases hlt : k < l.length
      · obtain ⟨x, hx⟩ : ∃ x, l[k]? = some x := ⟨_, List.getElem?_eq_getElem hlt⟩
        have HX := Lib.hid hx
        have hfr := HF.out x (List.mem_of_getElem? hx)
        obtain ⟨m, hm, hm1, hm2⟩ := do_cases (formed_is hfr.1)
        have hmN : x.1.toNat = m := by omega
        have HM := Lib.hid hmN
        have HFR := Lib.hid hfr
        have HTL : Hid ((textP (l.take k)).length ≤ 6400) := Lib.hid (by
          have h1 := text_len (l := l.take k) (fun y hy => HF.out y (List.mem_of_mem_take hy))
          have h2 : (l.take k).length ≤ 64 := by rw [List.length_take]; omega
          omega)
        have HPL : Hid (∀ i, (partS x i).length ≤ 100) := Lib.hid (partS_len hfr.1 hfr.2)
        obtain ⟨bb, oo, rfl, hc⟩ := op_at (HR.out.later HW.out) hx
        have hopx : opV x = [.int .i64 (m : Int), .int .i64 x.2.1, .int .i64 x.2.2.1, .int .i64 x.2.2.2.1, .int .i64 x.2.2.2.2] := by unfold opV; rw [hm]
        have HO := Lib.hid hopx
        have q0 := hc 0 (.int .i64 (m : Int)) (by omega) (by rw [hopx]; rfl)
        have q1 := hc 1 _ (by omega) (by rw [hopx]; rfl)
        have q2 := hc 2 _ (by omega) (by rw [hopx]; rfl)
        have q3 := hc 3 _ (by omega) (by rw [hopx]; rfl)
        have q4 := hc 4 _ (by omega) (by rw [hopx]; rfl)
        rw [Nat.add_zero] at q0
        have k0 : (0 : Int) ≤ (k : Int) := by omega
        have k1 : (k : Int) < (l.length : Int) := by omega
        have hm16 : m < 16 := by omega
        clear hc hx hfr hopx hm hmN
        go_wp2_with (first
          | (go_at_call 12; refine (fields_any _ _).mono ?_; rintro _ w1 ⟨rfl, hw1⟩; obtain ⟨hbw, hro, h01⟩ := round_made HO.out hw1; have hsh1 : w1.cell? ⟨0, m * 2, none⟩ = some (.string ⟨(wordN m).toArray⟩) := (HLo.out w1 (HB.out.2.1.trans (hbw.mono (Nat.le_of_lt hbs)))).word m hm16; have H2 := Lib.hid (And.intro hbw hro); clear hw1 hbw hro)
          | (go_at_call 13; refine (writeString_any b b (Lib.byteCells (textP (l.take k))) ⟨(wordN m).toArray⟩ w1 (bdF_below HB.out.1 H2.out.1) (by have h1 := HTL.out; have h2 := word_len ⟨m, hm16⟩; rw [Lib.byteCells_length]; show _ + (wordN m).toArray.size ≤ _; simp only [List.size_toArray]; simp only at h2; omega) (by have := H2.out.1.size; omega)).mono ?_; rintro _ w2 ⟨rfl, hbd, hbe, hot⟩; have hro := H2.out.2.oth hot hbs; have h02 : w2.cell? ⟨wo.heap.size, 0, none⟩ = some (.int .i64 (m : Int)) := hro.1.op 0 _ (by omega) (by rw [HO.out]; rfl); have hV2 := HB.out.2.1.trans ((H2.out.1.mono (Nat.le_of_lt hbs)).trans hbe); have hsh2 : w2.cell? ⟨0, m * 2 + 1, none⟩ = some (.string ⟨(hasS m).toArray⟩) := (HLo.out w2 hV2).has m hm16; have hz2 : wo.heap.size + 2 ≤ w2.heap.size := (by have := (Array.getElem?_eq_some_iff.1 hro.2).1; omega); rw [bytes_str] at hbd; have H3 := Lib.hid (And.intro hbd (And.intro hV2 hro)); clear hbd hbe hot hro hV2))
        go_loopw [] (fun W' => ∃ i, Hid (W'.heap[w2.heap.size]? = some (.stringIter ⟨(hasS m).toArray⟩ i) ∧ i ≤ (hasN m).length ∧ RoundAt W' wo.heap.size x ∧ BdF b b (Lib.byteCells (textP (l.take k) ++ partS x i)) W' ∧ Below b V1 W')) (fun W' => 5 - W'.iterPos w2.heap.size)
        case atStart =>
          refine ⟨0, Lib.hid ⟨World.iter_heap w2 ⟨(hasS m).toArray⟩ 0, by omega, H3.out.2.2.below (al1 w2 _), ?_, H3.out.2.1.trans ((al1 w2 _).mono (by omega))⟩⟩
          rw [partS_zero, HM.out]
          exact bdF_below H3.out.1 (al1 w2 _)
        case round =>
          obtain ⟨i, HI⟩ := hrel
          obtain ⟨wi, rfl⟩ : ∃ wi : World, wi = wr := ⟨_, rfl⟩
          have hil := HI.out.2.1
          by_cases hi : i < (hasN m).length
          · obtain ⟨f, hf⟩ : ∃ f, (hasN m)[i]? = some f := ⟨_, List.getElem?_eq_getElem hi⟩
            have hf4 : f < 4 := hasN_lt m f (List.mem_of_getElem? hf)
            have hnx : ∀ ty, (Instr.next (.pointer (some ⟨w2.heap.size, 0, none⟩)) true ty).run Tryd.prog wi = _ := fun ty => next_at wi w2.heap.size (hasS m) i (letter f) ty HI.out.1 (hasS_get hf) (letter_lt f)
            obtain ⟨w3, hw3⟩ : ∃ w3, w3 = wi.iterAt w2.heap.size ⟨(hasS m).toArray⟩ (i + 1) := ⟨_, rfl⟩
            rw [← hw3] at hnx
            have HJ : Hid (w3.heap[w2.heap.size]? = some (.stringIter ⟨(hasS m).toArray⟩ (i + 1)) ∧ RoundAt w3 wo.heap.size x ∧ BdF b b (Lib.byteCells (textP (l.take k) ++ partS x i)) w3 ∧ Below b V1 w3 ∧ b ≤ w3.heap.size) := Lib.hid (by
              rw [hw3]
              have hb := HI.out.2.2.2.2.size
              exact ⟨Lib.iterAt_heap wi w2.heap.size ⟨(hasS m).toArray⟩ i (i + 1) HI.out.1, HI.out.2.2.1.iter (by omega) _ _, HI.out.2.2.2.1.iterAt HI.out.1 _, Lib.below_iterAt HI.out.2.2.2.2 (by omega) _ _, by rw [Lib.iterAt_size]; have := HN.out; omega⟩)
            have HFx : Hid (-big ≤ fld x f ∧ fld x f ≤ big) := Lib.hid (ranged_in HFR.out.2 (by rw [HM.out]; exact List.mem_of_getElem? hf))
            have HS : Hid (partS x (i + 1) = (partS x i ++ [32]) ++ Lib.itoa (fld x f)) := Lib.hid (partS_succ (by rw [HM.out]; exact hf))
            obtain ⟨v, hv⟩ : ∃ v, fld x f = v := ⟨_, rfl⟩
            rw [hv] at HFx HS
            have HV := Lib.hid hv
            clear hw3 hf hv
            go_wp2_with (first
              | (go_at_call 14; refine (writeByte_any b b (Lib.byteCells (textP (l.take k) ++ partS x i)) 32 w3 HJ.out.2.2.1 (by have h1 := HTL.out; have h2 := HPL.out i; rw [Lib.byteCells_length, List.length_append]; omega) HJ.out.2.2.2.2).mono ?_; rintro _ w4 ⟨rfl, hbd, hbe, hot⟩; have hro := HJ.out.2.1.oth hot hbs; have hq4 := hro.ptr; have hv4 : w4.cell? ⟨wo.heap.size, f + 1, none⟩ = some (.int .i64 v) := (by rw [← HV.out]; exact hro.1.op.fld hf4); have H4 : Hid (w4.heap[w2.heap.size]? = some (.stringIter ⟨(hasS m).toArray⟩ (i + 1)) ∧ RoundAt w4 wo.heap.size x ∧ BdF b b (Lib.byteCells (textP (l.take k) ++ (partS x i ++ [32]))) w4 ∧ Below b V1 w4 ∧ b ≤ w4.heap.size) := Lib.hid ⟨hot.iter HJ.out.1 (by omega), hro, by rw [← List.append_assoc, ← bytes_one _ 32 32 rfl]; exact hbd, HJ.out.2.2.2.1.trans hbe, Nat.le_trans HJ.out.2.2.2.2 hbe.size⟩; clear hbd hbe hot hro)
              | (go_at_call 22; refine (fieldC_any f wo.heap.size (wo.heap.size + 1) hf4 _ hq4).mono ?_; rintro _ w' ⟨rfl, rfl⟩)
              | (go_at_call 15; refine (itoa_any v HFx.out.1 HFx.out.2 w4 (HLo.out w4 H4.out.2.2.2.1)).mono ?_; rintro _ w5 ⟨rfl, hbw⟩; have H5 : Hid (w5.heap[w2.heap.size]? = some (.stringIter ⟨(hasS m).toArray⟩ (i + 1)) ∧ RoundAt w5 wo.heap.size x ∧ BdF b b (Lib.byteCells (textP (l.take k) ++ (partS x i ++ [32]))) w5 ∧ Below b V1 w5 ∧ b ≤ w5.heap.size) := Lib.hid ⟨(hbw.block _ (Array.getElem?_eq_some_iff.1 H4.out.1).1).trans H4.out.1, H4.out.2.1.below hbw, bdF_below H4.out.2.2.1 hbw, H4.out.2.2.2.1.trans (hbw.mono H4.out.2.2.2.2), Nat.le_trans H4.out.2.2.2.2 hbw.size⟩; clear hbw)
              | (go_at_call 13; refine (writeString_any b b (Lib.byteCells (textP (l.take k) ++ (partS x i ++ [32]))) ⟨(Lib.itoa v).toArray⟩ w5 H5.out.2.2.1 (by have h1 := HTL.out; have h2 := HPL.out (i + 1); rw [HS.out] at h2; rw [Lib.byteCells_length]; show _ + (Lib.itoa v).toArray.size ≤ _; simp only [List.size_toArray, List.length_append] at h2 ⊢; omega) H5.out.2.2.2.2).mono ?_; rintro _ w6 ⟨rfl, hbd, hbe, hot⟩; have H6 : Hid (w6.heap[w2.heap.size]? = some (.stringIter ⟨(hasS m).toArray⟩ (i + 1)) ∧ RoundAt w6 wo.heap.size x ∧ BdF b b (Lib.byteCells (textP (l.take k) ++ partS x (i + 1))) w6 ∧ Below b V1 w6) := Lib.hid ⟨hot.iter H5.out.1 (by omega), H5.out.2.1.oth hot hbs, by rw [HS.out, ← List.append_assoc, ← bytes_str]; exact hbd, H5.out.2.2.2.1.trans hbe⟩; clear hbd hbe hot))
            go_roundw
            case rel => exact ⟨i + 1, Lib.hid ⟨H6.out.1, by omega, H6.out.2.1, H6.out.2.2.1, H6.out.2.2.2⟩⟩
            case measure =>
              have := hasN_len m
              simp only [World.iterPos, H6.out.1, HI.out.1]
              omega
          · have hi4 : i = (hasN m).length := by omega
            subst hi4
            have hnx : ∀ ty, (Instr.next (.pointer (some ⟨w2.heap.size, 0, none⟩)) true ty).run Tryd.prog wi = _ := fun ty => next_end wi w2.heap.size (hasS m) _ ty HI.out.1 (by unfold hasS; simp)
            go_wp2_with (go_at_call 14; refine (writeByte_any b b (Lib.byteCells (textP (l.take k) ++ partS x (hasN m).length)) 10 wi HI.out.2.2.2.1 (by have h1 := HTL.out; have h2 := HPL.out (hasN m).length; rw [Lib.byteCells_length, List.length_append]; omega) (by have := HI.out.2.2.2.2.size; have := HN.out; omega)).mono ?_; rintro _ w4 ⟨rfl, hbd, hbe, hot⟩; have H4 : Hid (BdF b b (Lib.byteCells (textP (l.take (k + 1)))) w4 ∧ Below b V1 w4 ∧ b < w4.heap.size) := Lib.hid ⟨by rw [text_take HX.out, ← partS_end, HM.out, ← List.append_assoc, ← bytes_one _ 10 10 rfl]; exact hbd, HI.out.2.2.2.2.trans hbe, by have h1 := (Array.getElem?_eq_some_iff.1 HI.out.2.2.1.1).1; have := hbe.size; omega⟩; clear hbd hbe hot)
            go_roundw
            case rel => exact ⟨k + 1, by omega, by go_num, H4⟩
            case measure => simp [intP]; omega
      · obtain rfl : k = l.length := by omega
        have HE : Hid (BdF b b (Lib.byteCells (textP l)) wo) := Lib.hid (by have := HB.out.1; rwa [List.take_length] at this)
        go_wp2_with (go_at_call 16; refine (Sh.Builder_String_any_k b b (textP l) wo HE.out (Nat.le_of_lt hbs)).mono ?_; rintro _ w7 ⟨rfl, hbd, hbe, hot⟩; have H7 := Lib.hid hbe; clear hbd hbe hot)
        go_ret2
        exact ⟨rfl, H1.out.trans ((HB.out.2.1.trans H7.out).mono hwb)⟩
end Pc
end Go.Proofs.YtgoegdlhbadlfaaDoor
