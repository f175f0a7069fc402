/- Joined: Law9. -/
import Derived.Test.YtbempjkkohjnbaaYLaw8
import Derived.Test.YtbempjkkohjnbaaYTr11
/- The laws of package tree: TreeBack. -/
namespace Go.Proofs.Ytbempjkkohjnbaa
open Go.RowKit Tr
open Ky (less)

/-- A tree with L1 and a list with L2, made since W. -/
def TL (W : World) (b o r : Nat) (L1 L2 : List Pr) (V : World) : Prop := TwoAt W.heap.size noCells V b o r L1 L2 ∧ Below W.heap.size W V
section
variable {W w V : World} {b o r : Nat} {L1 L2 : List Pr}
theorem TL.later (h : TL W b o r L1 L2 w) (hb : Below w.heap.size w V) : TL W b o r L1 L2 V := ⟨h.1.later hb, h.2.trans (hb.mono h.2.size)⟩
theorem TL.put (key v : Str) (h : TL W b o r L1 L2 w) (hn : L1.length ≤ 100000) :
    Calls Try.prog 19 #[ptrV b, .string ⟨key.toArray⟩, .string ⟨v.toArray⟩] w fun e V => e = .returned (.tuple #[.string ⟨(putO key v L1).toArray⟩, .bool (putI key v L1), .int .i64 (putC key v)]) ∧ TL W b o r (putL key v L1) L2 V :=
  (two_put key v h.1 hn).mono fun _e _V ⟨he, t, hb, _⟩ => ⟨he, t, h.2.trans hb⟩
theorem TL.del (key : Str) (h : TL W b o r L1 L2 w) (hn : L1.length ≤ 100000) :
    Calls Try.prog 34 #[ptrV b, .string ⟨key.toArray⟩] w fun e V => e = .returned (.tuple #[.string ⟨(getO key L1).toArray⟩, .int .i64 (getC key L1)]) ∧ TL W b o r (delL key L1) L2 V :=
  (two_del key h.1 hn).mono fun _e _V ⟨he, t, hb, _⟩ => ⟨he, t, h.2.trans hb⟩
theorem TL.get (key : Str) (h : TL W b o r L1 L2 w) :
    Calls Try.prog 33 #[ptrV b, .string ⟨key.toArray⟩] w fun e V => e = .returned (.tuple #[.string ⟨(getO key L1).toArray⟩, .int .i64 (getC key L1)]) ∧ TL W b o r L1 L2 V :=
  (two_get key h.1).mono fun _e _V ⟨he, t, hb, _⟩ => ⟨he, t, h.2.trans hb⟩
theorem TL.ceil (key : Str) (h : TL W b o r L1 L2 w) :
    Calls Try.prog 32 #[ptrV b, .string ⟨key.toArray⟩] w fun e V => e = .returned (.tuple #[.string ⟨(ckey (Tr.ceil key L1)).toArray⟩, .string ⟨(cval (Tr.ceil key L1)).toArray⟩, .int .i64 (ccode (Tr.ceil key L1))]) ∧ TL W b o r L1 L2 V :=
  (two_ceil key h.1).mono fun _e _V ⟨he, hb⟩ => ⟨he, h.later hb⟩
theorem TL.same (h : TL W b o r L1 L1 w) (hn : L1.length ≤ 900000) :
    Calls Try.prog 21 #[ptrV b, ptrV r] w fun e V => e = .returned (.bool true) ∧ TL W b o r L1 L1 V :=
  (two_same h.1 hn).mono fun _e _V ⟨he, hb⟩ => ⟨he, h.later hb⟩
theorem TL.count (h : TL W b o r L1 L2 w) : w.cell? ⟨b, 1, none⟩ = some (.int .i64 (L1.length : Nat)) := two_count h.1
end
/-- What the law's two texts are, in their box. -/
def Bx2 (P : Nat) (s t : Str) (V : World) : Prop := V.cell? ⟨P, 0, none⟩ = some (.string ⟨s.toArray⟩) ∧ V.cell? ⟨P, 1, none⟩ = some (.string ⟨t.toArray⟩)
theorem Run.tl {W wr : World} {b o r : Nat} {l : List TOp} (h : Run W wr b o r l l.length) : TL W b o r (runL l) (runL l) wr := by
  unfold Run at h
  rw [List.take_length] at h
  exact h
set_option maxHeartbeats 4000000 in
set_option maxRecDepth 100000 in
theorem treeBack_walk (order : Int) (a : Option Addr) (c : Nat) (l : List TOp) (k v : Str) (w : World) (hr : Rd w 3 a l.length c (topsV l)) (hok : ∀ x ∈ l, OkTop x) :
    Calls Try.prog 11 #[.int .i64 order, .slice a l.length c, .agg #[.string ⟨k.toArray⟩, .string ⟨v.toArray⟩]] w (Yes w) := by
  have hcap := hr.cap
  have hle := hr.le
  unfold maxLen at hcap
  have HA := Lib.hid (fun W => awake4_any W)
  obtain ⟨W, hW⟩ : ∃ W, w.alloc (.cells #[.string ⟨k.toArray⟩, .string ⟨v.toArray⟩] 67) = W := ⟨_, rfl⟩
  have hbW : Below w.heap.size w W := by rw [← hW]; exact al1 w _
  have hszW : W.heap.size = w.heap.size + 1 := by rw [← hW]; simp
  have hbx : Bx2 w.heap.size k v W := by exact ⟨by rw [← hW]; simp, by rw [← hW]; simp⟩
  have HB0 : Hid (∀ V, Below W.heap.size W V → Bx2 w.heap.size k v V) := Lib.hid (fun V h => ⟨old_cell hbx.1 h, old_cell hbx.2 h⟩)
  have HFin : Hid (∀ V, Below W.heap.size W V → Below w.heap.size w V) := Lib.hid (fun V h => hbW.trans (h.mono hbW.size))
  by_cases ho : order < 2 ∨ 16 < order
  · have HN := Lib.hid (newT_bad order ho W)
    clear hr hok ho hbW hszW hbx
    go_enter Try.func11, Try.ntmps11
    go_wp2_with (first
      | (go_at_call 17; refine HN.out.mono ?_; rintro e V ⟨rfl, rfl⟩)
      | (go_at_call 18; refine (HA.out _).mono ?_; rintro e V ⟨rfl, hb⟩; have HB := Lib.hid hb; clear hb))
    go_ret
    exact ⟨rfl, HFin.out _ HB.out⟩
  obtain ⟨o, rfl⟩ : ∃ o : Nat, order = o := ⟨order.toNat, by omega⟩
  have HN := Lib.hid (newT_any o (by omega) (by omega) W)
  have HF := Lib.hid (fun V (h : Below W.heap.size W V) => few_any a c l (by omega) hok V ((hr.later hbW).later h))
  by_cases hf : fewL l
  case neg =>
    have hff : decide (fewL l) = false := by simpa using hf
    rw [hff] at HF
    clear hr hok ho hf hff hbW hszW hbx
    go_enter Try.func11, Try.ntmps11
    go_wp2_with (first
      | (go_at_call 17; refine HN.out.mono ?_; rintro e V ⟨b, g, rfl, t1, t2, t3, t4⟩; have H0 := Lib.hid t3; clear t1 t2 t3 t4)
      | (go_at_call 29; refine (HF.out _ H0.out).mono ?_; rintro e V ⟨rfl, rfl⟩)
      | (go_at_call 18; refine (HA.out _).mono ?_; rintro e V ⟨rfl, hb⟩; have HB := Lib.hid hb; clear hb))
    go_ret
    exact ⟨rfl, HFin.out _ (H0.out.trans (HB.out.mono H0.out.size))⟩
  have hff : decide (fewL l) = true := by simpa using hf
  have hl := hf.2
  rw [hff] at HF
  by_cases hk : 300 < k.length
  · have hk1 : (300 : Int) < (k.length : Int) := by omega
    have hk2 : decide (300 < k.length) = true := by simpa using hk
    clear hr hok ho hf hff hbW hszW hbx
    go_enter Try.func11, Try.ntmps11
    go_wp2_with (first
      | (go_at_call 17; refine HN.out.mono ?_; rintro e V ⟨b, g, rfl, t1, t2, t3, t4⟩; have H0 := Lib.hid t3; clear t1 t2 t3 t4)
      | (go_at_call 29; refine (HF.out _ H0.out).mono ?_; rintro e V ⟨rfl, rfl⟩; have BX := HB0.out V H0.out; obtain ⟨c0, c1⟩ := BX)
      | (go_at_call 18; refine (HA.out _).mono ?_; rintro e V ⟨rfl, hb⟩; have HB := Lib.hid hb; clear hb))
    go_ret
    exact ⟨rfl, HFin.out _ (H0.out.trans (HB.out.mono H0.out.size))⟩
  have hk1 : ¬ (300 : Int) < (k.length : Int) := by omega
  have hk2 : decide (300 < k.length) = false := by simpa using hk
  by_cases hv : 300 < v.length
  · have hv1 : (300 : Int) < (v.length : Int) := by omega
    clear hr hok ho hf hff hbW hszW hbx
    go_enter Try.func11, Try.ntmps11
    go_wp2_with (first
      | (go_at_call 17; refine HN.out.mono ?_; rintro e V ⟨b, g, rfl, t1, t2, t3, t4⟩; have H0 := Lib.hid t3; clear t1 t2 t3 t4)
      | (go_at_call 29; refine (HF.out _ H0.out).mono ?_; rintro e V ⟨rfl, rfl⟩; have BX := HB0.out V H0.out; obtain ⟨c0, c1⟩ := BX)
      | (go_at_call 18; refine (HA.out _).mono ?_; rintro e V ⟨rfl, hb⟩; have HB := Lib.hid hb; clear hb))
    go_ret
    exact ⟨rfl, HFin.out _ (H0.out.trans (HB.out.mono H0.out.size))⟩
  have hv1 : ¬ (300 : Int) < (v.length : Int) := by omega
  have HR := Lib.hid (fun V (h : Below W.heap.size W V) => (hr.later hbW).later h)
  clear hr hok ho hf hff hbW hszW hbx
  go_enter Try.func11, Try.ntmps11
  go_wp2_with (first
    | (go_at_call 17; refine HN.out.mono ?_; rintro e V ⟨b, g, rfl, t1, t2, t3, t4⟩; have H0 := Lib.hid t3; have H1 := Lib.hid (fun t => Run.start (l := l) (t := t) t1 t2 t3 t4); clear t1 t2 t3 t4)
    | (go_at_call 29; refine (HF.out _ H0.out).mono ?_; rintro e V ⟨rfl, rfl⟩; have BX := HB0.out V H0.out; obtain ⟨c0, c1⟩ := BX))
  obtain ⟨r, hrr⟩ : ∃ r, V.heap.size = r := ⟨_, rfl⟩
  rw [hrr] at H1 ⊢
  clear hrr c0 c1
  go_loopw [10] (fun i wr => ∃ (j : Nat), j ≤ l.length ∧ i = .int .i64 j ∧ Hid (Run W wr b o r l j)) (fun i _ => l.length - (intOf i).toNat)
  case atStart => exact ⟨0, by omega, rfl, Lib.hid (H1.out _)⟩
  case round =>
    obtain ⟨j, hj, rfl, HJ⟩ := hrel
    by_cases hlt : j < l.length
    · obtain ⟨⟨ask, key, vv⟩, hx⟩ : ∃ x, l[j]? = some x := ⟨_, List.getElem?_eq_getElem hlt⟩
      obtain ⟨lb, lo, rfl, x0, x1, x2⟩ := top_at (HR.out _ HJ.out.2) hx
      have HD := Lib.hid (HJ.out.does hx hl)
      have k0 : (0 : Int) ≤ (j : Int) := by omega
      have k1 : (j : Int) < (l.length : Int) := by omega
      clear hx
      go_wp2_with (go_at_call 30; refine HD.out.mono ?_; rintro e V2 ⟨rfl, H2⟩)
      go_roundw
      case rel => exact ⟨j + 1, by omega, by go_num, H2⟩
      case measure => simp [intOf]; omega
    · obtain rfl : j = l.length := by omega
      have hLl : (runL l).length ≤ l.length := run_len l
      have HT := Lib.hid HJ.out.tl
      obtain ⟨L, hL⟩ : ∃ L, runL l = L := ⟨_, rfl⟩
      have HOk : Hid (OkL L) := Lib.hid (by rw [← hL]; exact okL_run l)
      rw [hL] at HT hLl
      have HLn : Hid (L.length ≤ 200) := Lib.hid (by omega)
      have HLs : Hid (Sorted L) := Lib.hid HT.out.1.sorted
      have hcnt := HT.out.count
      obtain ⟨c0, c1⟩ := HB0.out _ HT.out.2
      obtain ⟨n, hn⟩ : ∃ n, L.length = n := ⟨_, rfl⟩
      rw [hn] at hcnt
      have HNn := Lib.hid hn
      have HLen := Lib.hid (fun n W hc => lenT_any b n W hc)
      clear HJ hL hLl hn
      by_cases hc0 : putC k v = 0
      case neg =>
        -- refused
        have e1 : putO k v L = [] ∧ putI k v L = false ∧ putL k v L = L := by
          unfold putC at hc0
          unfold putO putI putL
          by_cases h1 : okTk k = true
          · rw [if_pos h1] at hc0
            have h2 : ¬ v.length ≤ 256 := fun h => hc0 (by rw [if_pos h])
            simp [h1, h2]
          · simp [h1]
        have HP := HT.out.put k v (by have := HLn.out; omega)
        rw [e1.1, e1.2.1, e1.2.2] at HP
        obtain ⟨cc, hcc⟩ : ∃ cc, putC k v = cc := ⟨_, rfl⟩
        rw [hcc] at hc0 HP
        have HP := Lib.hid HP
        have HS := Lib.hid (fun V (h : TL W b o r L L V) => h.same (by have := HLn.out; omega))
        clear e1 hcc
        go_wp2_with (first
          | (go_at_call 31; refine (HLen.out _ _ hcnt).mono ?_; rintro e V ⟨rfl, rfl⟩)
          | (go_at_call 19; refine HP.out.mono ?_; rintro e V1 ⟨rfl, ht⟩; have H1 := Lib.hid ht; clear ht)
          | (go_at_call 21; refine (HS.out _ H1.out).mono ?_; rintro e V2 ⟨rfl, ht⟩; have H2 := Lib.hid ht; clear ht)
          | (go_at_call 18; refine (HA.out _).mono ?_; rintro e V5 ⟨rfl, hb⟩; have HB := Lib.hid hb; clear hb))
        go_ret
        exact ⟨rfl, HFin.out _ (H2.out.2.trans (HB.out.mono H2.out.2.size))⟩
      -- it is put
      have hkk : okTk k = true := by
        unfold putC at hc0
        by_cases h1 : okTk k = true
        · exact h1
        · rw [if_neg h1] at hc0; cases hc0
      have hvv : v.length ≤ 256 := by
        unfold putC at hc0
        rw [if_pos hkk] at hc0
        by_cases h1 : v.length ≤ 256
        · exact h1
        · rw [if_neg h1] at hc0; cases hc0
      have hkv : (okTk k && decide (v.length ≤ 256)) = true := by simp [hkk, hvv]
      obtain ⟨L1, hL1⟩ : ∃ L1, ins (k, v) L = L1 := ⟨_, rfl⟩
      obtain ⟨L2, hL2⟩ : ∃ L2, Tr.del k L1 = L2 := ⟨_, rfl⟩
      have hs1 : Sorted L1 := by rw [← hL1]; exact HLs.out.ins _
      have hg1 : Tr.get k L1 = some v := by rw [← hL1]; exact get_ins k v L
      have hg2 : Tr.get k L2 = none := by rw [← hL2]; exact get_del hs1 k
      have hce : Tr.ceil k L1 = some (k, v) := by rw [← hL1]; exact ceil_ins k v L
      have hlen1 : L1.length = n + if Tr.get k L = none then 1 else 0 := by rw [← hL1, ins_len, HNn.out]
      obtain ⟨u, hu⟩ : ∃ u, oldS k L = u := ⟨_, rfl⟩
      have HP1 := Lib.hid (by
        have h := HT.out.put k v (by have := HLn.out; omega)
        unfold putO putI putL at h
        rw [if_pos hkv, if_pos hkv, if_pos hkv, hc0, hL1, hu] at h
        exact h)
      have HG1 := Lib.hid (fun V (h : TL W b o r L1 L V) => by
        have h := h.get k
        unfold getO getC cdel oldS at h
        rw [hkk, hg1] at h
        simp only [↓reduceIte, Option.getD_some, Option.isSome_some] at h
        exact h)
      have HC1 := Lib.hid (fun V (h : TL W b o r L1 L V) => by
        have h := h.ceil k
        rw [hce] at h
        simp only [ckey, cval, ccode] at h
        exact h)
      have HD1 := Lib.hid (fun V (h : TL W b o r L1 L V) => by
        have h := h.del k (by rw [hlen1]; have := HLn.out; have := HNn.out; split <;> omega)
        unfold getO getC cdel oldS delL at h
        rw [hkk, hg1] at h
        simp only [↓reduceIte, Option.getD_some, Option.isSome_some] at h
        exact h)
      have HG2 := Lib.hid (fun V (h : TL W b o r L2 L V) => by
        have h := h.get k
        unfold getO getC cdel oldS at h
        rw [hkk, hg2] at h
        simp only [↓reduceIte, Option.getD_none, Option.isSome_none, Bool.false_eq_true] at h
        exact h)
      have HS := Lib.hid (fun V (h : TL W b o r L L V) => h.same (by have := HLn.out; omega))
      have HCn := Lib.hid (fun V (h : TL W b o r L1 L V) => h.count)
      have HBx := Lib.hid (fun V (La : List Pr) (h : TL W b o r La L V) => HB0.out V h.2)
      have q1 := str_neq 9 v v
      rw [show (v == v) = true by simp] at q1
      have q2 := str_neq 9 k k
      rw [show (k == k) = true by simp] at q2
      have HL2 := Lib.hid hL2
      cases hg : Tr.get k L with
      | some u0 =>
        have hu0 : u = u0 := by rw [← hu]; unfold oldS; rw [hg]; rfl
        subst hu0
        have hl1 : L1.length = n := by rw [hlen1, hg]; simp
        have hb : L2 = L2 := rfl
        have hback : ins (k, u) L2 = L := by rw [← hL2, ← hL1]; exact ins_del_ins HLs.out hg
        have hul : u.length ≤ 256 := (HOk.out _ (get_mem hg)).2
        have hku : (okTk k && decide (u.length ≤ 256)) = true := by simp [hkk, hul]
        have HP2 := Lib.hid (fun V (h : TL W b o r L2 L V) => by
          have hl2 : L2.length ≤ 100000 := by
            have h4 := del_len k L1
            rw [hL2, hl1] at h4
            have := HLn.out; have := HNn.out
            omega
          have h := h.put k u hl2
          have hp0 : putC k u = 0 := by unfold putC; rw [if_pos hkk, if_pos hul]
          unfold putO putI putL at h
          rw [if_pos hku, if_pos hku, if_pos hku, hp0, hback] at h
          exact h)
        rw [hg] at HP1
        simp only [Option.isSome_some] at HP1
        have HN1 := Lib.hid hl1
        clear hc0 hkk hvv hkv hL1 hL2 hs1 hg1 hg2 hce hlen1 hu hg hl1 hb hback hul hku
        go_wp2_with (first
          | (go_at_call 31; (with_reducible refine (HLen.out _ _ hcnt).mono ?_); rintro e V ⟨rfl, rfl⟩)
          | (go_at_call 19; (with_reducible refine HP1.out.mono ?_); rintro e V1 ⟨rfl, ht⟩; have H1 := Lib.hid ht; obtain ⟨d0, d1⟩ := HBx.out _ _ ht; clear ht)
          | (go_at_call 33; (with_reducible refine (HG1.out _ H1.out).mono ?_); rintro e V2 ⟨rfl, ht⟩; have H2 := Lib.hid ht; obtain ⟨d2, d3⟩ := HBx.out _ _ ht; clear ht)
          | (go_at_call 32; (with_reducible refine (HC1.out _ H2.out).mono ?_); rintro e V3 ⟨rfl, ht⟩; have H3 := Lib.hid ht; obtain ⟨d4, d5⟩ := HBx.out _ _ ht; have hcn3 := HCn.out _ ht; rw [HN1.out] at hcn3; clear ht)
          | (go_at_call 31; (with_reducible refine (HLen.out n _ hcn3).mono ?_); rintro e V ⟨rfl, rfl⟩)
          | (go_at_call 34; (with_reducible refine (HD1.out _ H3.out).mono ?_); rintro e V4 ⟨rfl, ht⟩; rw [HL2.out] at ht; have H4 := Lib.hid ht; obtain ⟨d6, d7⟩ := HBx.out _ _ ht; clear ht)
          | (go_at_call 33; (with_reducible refine (HG2.out _ H4.out).mono ?_); rintro e V5 ⟨rfl, ht⟩; have H5 := Lib.hid ht; obtain ⟨d8, d9⟩ := HBx.out _ _ ht; clear ht)
          | (go_at_call 19; (with_reducible refine (HP2.out _ H5.out).mono ?_); rintro e V6 ⟨rfl, ht⟩; have HE := Lib.hid ht; clear ht)
          | (go_at_call 21; (with_reducible refine (HS.out _ HE.out).mono ?_); rintro e V7 ⟨rfl, ht⟩; have H7 := Lib.hid ht; clear ht)
          | (go_at_call 18; refine (HA.out _).mono ?_; rintro e V8 ⟨rfl, hb⟩; have HB := Lib.hid hb; clear hb))
        go_ret
        exact ⟨rfl, HFin.out _ (H7.out.2.trans (HB.out.mono H7.out.2.size))⟩
      | none =>
        have hl1 : L1.length = n + 1 := by rw [hlen1, hg]; simp
        have hback : L2 = L := by rw [← hL2, ← hL1]; exact del_ins_none hg
        rw [hg] at HP1
        simp only [Option.isSome_none] at HP1
        have HN1 := Lib.hid hl1
        have HLE := Lib.hid hback
        have hd : decide (((n : Int) + 1) = (n : Int)) = false := decide_eq_false (by omega)
        have hd2 : ¬ ((n : Int) + 1) = (n : Int) := by omega
        have hn9 : n ≤ 200 := by have := HLn.out; have := HNn.out; omega
        clear hc0 hkk hvv hkv hL1 hL2 hs1 hg1 hg2 hce hlen1 hu hg hl1 hback
        go_wp2_with (first
          | (go_at_call 31; (with_reducible refine (HLen.out _ _ hcnt).mono ?_); rintro e V ⟨rfl, rfl⟩)
          | (go_at_call 19; (with_reducible refine HP1.out.mono ?_); rintro e V1 ⟨rfl, ht⟩; have H1 := Lib.hid ht; obtain ⟨d0, d1⟩ := HBx.out _ _ ht; clear ht)
          | (go_at_call 33; (with_reducible refine (HG1.out _ H1.out).mono ?_); rintro e V2 ⟨rfl, ht⟩; have H2 := Lib.hid ht; obtain ⟨d2, d3⟩ := HBx.out _ _ ht; clear ht)
          | (go_at_call 32; (with_reducible refine (HC1.out _ H2.out).mono ?_); rintro e V3 ⟨rfl, ht⟩; have H3 := Lib.hid ht; obtain ⟨d4, d5⟩ := HBx.out _ _ ht; have hcn3 := HCn.out _ ht; rw [HN1.out] at hcn3; clear ht)
          | (go_at_call 31; (with_reducible refine (HLen.out (n + 1) _ hcn3).mono ?_); rintro e V ⟨rfl, rfl⟩)
          | (go_at_call 34; (with_reducible refine (HD1.out _ H3.out).mono ?_); rintro e V4 ⟨rfl, ht⟩; rw [HL2.out] at ht; have H4 := Lib.hid ht; obtain ⟨d6, d7⟩ := HBx.out _ _ ht; clear ht)
          | (go_at_call 33; (with_reducible refine (HG2.out _ H4.out).mono ?_); rintro e V5 ⟨rfl, ht⟩; have H5 := Lib.hid ht; have HE := Lib.hid (HLE.out ▸ ht); obtain ⟨d8, d9⟩ := HBx.out _ _ ht; clear ht)
          | (go_at_call 21; (with_reducible refine (HS.out _ HE.out).mono ?_); rintro e V7 ⟨rfl, ht⟩; have H7 := Lib.hid ht; clear ht)
          | (go_at_call 18; refine (HA.out _).mono ?_; rintro e V8 ⟨rfl, hb⟩; have HB := Lib.hid hb; clear hb))
        go_ret
        exact ⟨rfl, HFin.out _ (H7.out.2.trans (HB.out.mono H7.out.2.size))⟩
end Go.Proofs.Ytbempjkkohjnbaa
