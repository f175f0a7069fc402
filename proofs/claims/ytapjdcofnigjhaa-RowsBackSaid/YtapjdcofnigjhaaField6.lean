/- Package field: the reader: Read, Left, Uint, Int, Text. -/
import Derived.Test.YtapjdcofnigjhaaField5
namespace Go.Proofs.Ytapjdcofnigjhaa
open Go.RowKit
/-- 's[l:h]', its address under a name. -/
theorem lh_ex {P : Program} (t : TypeId) (ht : P.underlying t = some (.slice (P.elem t))) (size : Nat) (hs : ∀ w : World, (sizeOf (P.elem t)).run P w = .ok size w) (a : Option Addr) (n c : Nat) (l h : Nat) (zl zh : Int) (el : zl = l) (eh : zh = h) (h1 : l ≤ h) (h2 : h ≤ n) (hnc : n ≤ c) :
    ∃ a', (∀ W : World, (Instr.slice t (.slice a n c) (some (.int .i64 zl)) (some (.int .i64 zh)) none).run P W = .ok (.slice a' (h - l) (c - l)) W) ∧ ∀ (W : World) (vs : List Value), Rd W size a n c vs → Rd W size a' (h - l) (c - l) ((vs.drop (l * size)).take ((h - l) * size)) := by
  subst el eh
  refine ⟨if c = l then a else a.map (fun x => x.add (l * size)), fun W => ?_, fun W vs hr => ?_⟩
  · rw [run_slice_lh W t a n c ht .i64 .i64 (l : Int) (h : Int) (by omega) (by omega) (by omega), hs W]
    simp [Result.andThen, sliced]
  · exact hr.cut l h h1 h2 (fun hc x hx => by simp [hc, hx]) (fun h0 => by
      split at h0
      · exact h0
      · cases a with
        | none => rfl
        | some x => simp at h0)
section
variable (g : Nat) (a : Option Addr) (c : Nat) (bs : List UInt8) (at_ : Nat)
theorem left_any (w : World) (h : Rdr w g a c bs at_) (hl : bs.length ≤ 1000000) :
    Calls Try.prog 36 #[.pointer (some ⟨g, 0, none⟩)] w fun e w' => e = .returned (.int .i64 ((bs.length : Int) - (at_ : Int))) ∧ ∃ n, w' = w.drewN n := by
  have r0 := h.b
  have r1 := h.i
  have hle := h.le
  clear h
  go_enter Try.func36, Try.ntmps36
  go_wp2
  go_quiet (fail)
  go_wp2
  go_ret
  exact ⟨rfl, _, rfl⟩
theorem left_nil (w : World) : Calls Try.prog 36 #[.pointer none] w fun e w' => e = .returned (.int .i64 0) ∧ w = w' := by
  go_enter Try.func36, Try.ntmps36
  go_wp2
  go_ret
  exact ⟨rfl, rfl⟩
theorem read_any (hl : bs.length ≤ 1000000) (w : World) (h : RdB w a c bs) :
    Calls Try.prog 31 #[.slice a bs.length c] w fun e w' => ∃ g a' c', e = .returned (.pointer (some ⟨g, 0, none⟩)) ∧ Rdr w' g a' c' bs 0 ∧ Below w.heap.size w w' ∧ w.heap.size ≤ g := by
  have HC := Lib.hid (clone_any a c bs w h (by omega))
  clear h
  go_enter Try.func31, Try.ntmps31
  go_wp2_with (go_at_call 44; refine HC.out.mono ?_; rintro e w1 ⟨a1, c1, rfl, hr, hb⟩; have H1 := Lib.hid (And.intro hr hb); clear hr hb)
  go_ret
  obtain ⟨hr, hb⟩ := H1.out
  have hal : Below w1.heap.size w1 (w1.alloc (.cells #[.slice a1 bs.length c1, .int .i64 0] 86)) := (Below.refl _ _).alloc (Nat.le_refl _) _
  refine ⟨w1.heap.size, a1, c1, rfl, ⟨by simp, by simp, by simp, hr.later hal, fun hne x hx => ?_, Nat.zero_le _⟩, hb.trans (hal.mono hb.size), hb.size⟩
  have := Rd.lt hr x hx (bytesV_ne hne)
  omega
/-- Where the reader is behind a call. -/
def oN (err : Int) (x y : Nat) : Nat := if err = 0 then x else y
theorem rUint_any (hl : bs.length ≤ 1000000) (w : World) (h : Rdr w g a c bs at_) (P : Option (Nat × Nat)) (hP : Fd.parse 0 (bs.drop at_) = P) :
    Calls Try.prog 33 #[.pointer (some ⟨g, 0, none⟩)] w (OuterR w g a c bs (.int .i64 (uV P)) (uE P) (oN (uE P) (at_ + adv P) at_)) := by
  have hi := unsigned_any g a c bs at_ hl w h P hP
  unfold oN
  by_cases he : uE P = 0
  · rw [he] at hi ⊢
    have HI := Lib.hid (readU_ok g a c bs at_ _ _ w h hi)
    clear h hi hP he
    go_enter Try.func33, Try.ntmps33
    go_wp2_with (go_at_call 46; refine HI.out.mono ?_; rintro e w1 ⟨rfl, hr, hf⟩; have H1 := Lib.hid (And.intro hr hf); clear hr hf)
    go_ret2
    exact ⟨rfl, H1.out.1, H1.out.2⟩
  · rw [if_neg he]
    have hz : uV P = 0 := by
      cases P with
      | none => rfl
      | some q =>
        by_cases hb : q.1 < 9223372036854775808
        · exact absurd (if_pos hb) he
        · exact if_neg hb
    rw [hz]
    have HI := Lib.hid (readU_no g a c bs at_ _ _ he _ w h hi)
    clear h hi hP he hz
    generalize uE P = err at *
    go_enter Try.func33, Try.ntmps33
    go_wp2_with (go_at_call 46; refine HI.out.mono ?_; rintro e w1 ⟨rfl, hr, hf⟩; have H1 := Lib.hid (And.intro hr hf); clear hr hf)
    go_ret2
    exact ⟨rfl, H1.out.1, H1.out.2⟩
theorem rInt_any (hl : bs.length ≤ 1000000) (w : World) (h : Rdr w g a c bs at_) (P : Option (Nat × Nat)) (hP : Fd.parse 0 (bs.drop at_) = P) :
    Calls Try.prog 34 #[.pointer (some ⟨g, 0, none⟩)] w (OuterR w g a c bs (.int .i64 (iV P)) (iE P) (oN (iE P) (at_ + adv P) at_)) := by
  have hi := signed_any g a c bs at_ hl w h P hP
  unfold oN
  by_cases he : iE P = 0
  · rw [he] at hi ⊢
    have HI := Lib.hid (readI_ok g a c bs at_ _ _ w h hi)
    clear h hi hP he
    go_enter Try.func34, Try.ntmps34
    go_wp2_with (go_at_call 46; refine HI.out.mono ?_; rintro e w1 ⟨rfl, hr, hf⟩; have H1 := Lib.hid (And.intro hr hf); clear hr hf)
    go_ret2
    exact ⟨rfl, H1.out.1, H1.out.2⟩
  · rw [if_neg he]
    have hz : iV P = 0 := by
      cases P with
      | none => rfl
      | some q => exact absurd rfl he
    rw [hz]
    have HI := Lib.hid (readI_no g a c bs at_ _ _ he _ w h hi)
    clear h hi hP he hz
    generalize iE P = err at *
    go_enter Try.func34, Try.ntmps34
    go_wp2_with (go_at_call 46; refine HI.out.mono ?_; rintro e w1 ⟨rfl, hr, hf⟩; have H1 := Lib.hid (And.intro hr hf); clear hr hf)
    go_ret2
    exact ⟨rfl, H1.out.1, H1.out.2⟩
end
/-- Texts: what is wrong. -/
def tE (l at_ : Nat) (most : Int) : Option (Nat × Nat) → Int
  | none => 11
  | some q => if q.1 < 9223372036854775808 then (if most < q.1 then 23 else if l < at_ + q.2 + q.1 then 11 else 0) else 10
def tV (bs : List UInt8) (at_ : Nat) (most : Int) : Option (Nat × Nat) → List UInt8
  | none => []
  | some q => if tE bs.length at_ most (some q) = 0 then (bs.drop (at_ + q.2)).take q.1 else []
theorem tE_eq (l at_ n k : Nat) (most : Int) : tE l at_ most (some (n, k)) = if n < 9223372036854775808 then (if most < (n : Int) then 23 else if l < at_ + k + n then 11 else 0) else 10 := rfl
theorem tV_no {bs : List UInt8} {at_ : Nat} {most : Int} {q : Nat × Nat} (h : tE bs.length at_ most (some q) ≠ 0) : tV bs at_ most (some q) = [] := if_neg h
theorem tV_yes {bs : List UInt8} {at_ : Nat} {most : Int} {q : Nat × Nat} (h : tE bs.length at_ most (some q) = 0) : tV bs at_ most (some q) = (bs.drop (at_ + q.2)).take q.1 := if_pos h
def tA : Option (Nat × Nat) → Nat
  | none => 0
  | some q => q.2 + q.1
section
variable (g : Nat) (a : Option Addr) (c : Nat) (bs : List UInt8) (at_ : Nat) (most : Int)
theorem trec (w : World) : Below w.heap.size w (w.alloc (.cells #[.pointer (some ⟨g, 0, none⟩), .int .i64 most] 91)) := (Below.refl _ _).alloc (Nat.le_refl _) _
set_option maxRecDepth 100000 in
theorem tRead_any (hl : bs.length ≤ 1000000) (w : World) (h : Rdr w g a c bs at_) (P : Option (Nat × Nat)) (hP : Fd.parse 0 (bs.drop at_) = P) :
    Calls Try.prog 50 #[.agg #[.pointer (some ⟨g, 0, none⟩), .int .i64 most]] w (InnerR w g a c bs (.string ⟨(tV bs at_ most P).toArray⟩) (tE bs.length at_ most P) (at_ + tA P)) := by
  have hu := unsigned_any g a c bs at_ hl _ (h.later (trec g most w)) P hP
  have hgw : g < w.heap.size := block_of_cell h.i
  have hF : Fr (atF g) w (w.alloc (.cells #[.pointer (some ⟨g, 0, none⟩), .int .i64 most] 91)) := Fr.ofBelow (trec g most w) _
  have HU := Lib.hid hu
  have HF := Lib.hid hF
  have HT : Hid (∀ W, Fr (atF g) (w.alloc (.cells #[.pointer (some ⟨g, 0, none⟩), .int .i64 most] 91)) W → W.cell? ⟨w.heap.size, 0, none⟩ = some (.pointer (some ⟨g, 0, none⟩)) ∧ W.cell? ⟨w.heap.size, 1, none⟩ = some (.int .i64 most)) := Lib.hid (fun W hf =>
    ⟨cell_fr hf (by simp) (fun e => by have := e.1; omega), cell_fr hf (by simp) (fun e => by have := e.1; omega)⟩)
  clear hu hF h
  cases P with
  | none =>
    clear hP
    go_enter Try.func50, Try.ntmps50
    go_wp2_with (go_at_call 47; refine HU.out.mono ?_; rintro e w1 ⟨rfl, ⟨m, hr, hm⟩, hf⟩; have H1 := Lib.hid (And.intro hr hf); clear hr hf hm)
    go_ret2
    exact ⟨rfl, ⟨m, H1.out.1, fun h => by cases h⟩, atF_trans HF.out H1.out.2⟩
  | some q =>
    obtain ⟨n, k⟩ := q
    obtain ⟨hn, _, _, hk, _⟩ := Fd.parse_at hP
    rw [List.length_drop] at hk
    have hatl : at_ + k ≤ bs.length := by omega
    clear hP
    by_cases hb : n < 9223372036854775808
    · have e1 : uV (some (n, k)) = n := if_pos hb
      have e2 : uE (some (n, k)) = 0 := if_pos hb
      rw [e1, e2] at HU
      by_cases hm : most < (n : Int)
      · have e3 : tE bs.length at_ most (some (n, k)) = 23 := by rw [tE_eq, if_pos hb, if_pos hm]
        have e4 : tV bs at_ most (some (n, k)) = [] := tV_no (by rw [e3]; decide)
        rw [e3, e4]
        clear e1 e2 e3 e4 hb
        go_enter Try.func50, Try.ntmps50
        go_wp2_with (go_at_call 47; refine HU.out.mono ?_; rintro e w1 ⟨rfl, ⟨m, hr, hm⟩, hf⟩; have H1 := Lib.hid (And.intro hr hf); obtain ⟨y0, y1⟩ := HT.out w1 hf; clear hr hf hm)
        go_ret2
        exact ⟨rfl, ⟨_, H1.out.1, fun h => by cases h⟩, atF_trans HF.out H1.out.2⟩
      · have hm' : (n : Int) ≤ most := by omega
        by_cases hs : bs.length < at_ + k + n
        · have e3 : tE bs.length at_ most (some (n, k)) = 11 := by rw [tE_eq, if_pos hb, if_neg hm, if_pos hs]
          have e4 : tV bs at_ most (some (n, k)) = [] := tV_no (by rw [e3]; decide)
          rw [e3, e4]
          generalize hq : at_ + k = q at *
          have hs' : (bs.length : Int) - (q : Int) < (n : Int) := by omega
          have HQ := Lib.hid hq
          clear e1 e2 e3 e4 hb hq hs
          go_enter Try.func50, Try.ntmps50
          go_wp2_with (first
            | (go_at_call 47; refine HU.out.mono ?_; rintro e w1 ⟨rfl, ⟨m, hr, hm⟩, hf⟩; obtain rfl : m = q := (hm rfl).trans HQ.out; have H1 := Lib.hid (And.intro hr (atF_trans HF.out hf)); obtain ⟨y0, y1⟩ := HT.out w1 hf; clear hm; have HY : Hid (∀ W, Below w1.heap.size w1 W → W.cell? ⟨w.heap.size, 0, none⟩ = some (.pointer (some ⟨g, 0, none⟩)) ∧ W.cell? ⟨w.heap.size, 1, none⟩ = some (.int .i64 most)) := Lib.hid (fun W hb => HT.out W (hf.trans (Fr.ofBelow hb noCells) (fun _ _ h => h.elim))); clear hr hf)
            | (go_at_call 36; refine (left_any g a c bs _ w1 H1.out.1 hl).mono ?_; rintro e w2 ⟨rfl, nl, rfl⟩))
          go_ret2
          exact ⟨rfl, ⟨_, H1.out.1.later (drewN_below w1 nl), fun h => by cases h⟩, H1.out.2.trans (Fr.ofBelow (drewN_below w1 nl) noCells) (fun _ _ h => h.elim)⟩
        · have e3 : tE bs.length at_ most (some (n, k)) = 0 := by rw [tE_eq, if_pos hb, if_neg hm, if_neg hs]
          rw [e3, tV_yes e3]
          generalize hq : at_ + k = q at *
          have hs' : (n : Int) ≤ (bs.length : Int) - (q : Int) := by omega
          have HQ := Lib.hid hq
          have hs2 : q + n ≤ bs.length := by omega
          have hqq : (q : Int) ≤ (bs.length : Int) := by omega
          have HK := Lib.hid (show (at_ + tA (some (n, k)) = q + n) from by show at_ + (k + n) = q + n; omega)
          clear e1 e2 e3 hb hq hs
          go_enter Try.func50, Try.ntmps50
          go_wp2_with (first
            | (go_at_call 47; refine HU.out.mono ?_; rintro e w1 ⟨rfl, ⟨m, hr, hm⟩, hf⟩; obtain rfl : m = q := (hm rfl).trans HQ.out; have H1 := Lib.hid (And.intro hr (atF_trans HF.out hf)); obtain ⟨y0, y1⟩ := HT.out w1 hf; clear hm; have HY : Hid (∀ W, Below w1.heap.size w1 W → W.cell? ⟨w.heap.size, 0, none⟩ = some (.pointer (some ⟨g, 0, none⟩)) ∧ W.cell? ⟨w.heap.size, 1, none⟩ = some (.int .i64 most)) := Lib.hid (fun W hb => HT.out W (hf.trans (Fr.ofBelow hb noCells) (fun _ _ h => h.elim))); clear hr hf)
            | (go_at_call 36; refine (left_any g a c bs _ w1 H1.out.1 hl).mono ?_; rintro e w2 ⟨rfl, nl, rfl⟩))
          have H2 := Lib.hid (And.intro (H1.out.1.later (drewN_below w1 nl)) (H1.out.2.trans (Fr.ofBelow (drewN_below w1 nl) noCells) (fun _ _ h => h.elim)))
          have HY2 := Lib.hid (HY.out _ (drewN_below w1 nl))
          clear y0 y1
          generalize w1.drewN nl = W2 at *
          obtain ⟨y0, y1⟩ := HY2.out
          have r0 := H2.out.1.b
          have r1 := H2.out.1.i
          have hcap := (show RdB W2 a c bs from H2.out.1.rd).le
          obtain ⟨a', hsl, hrd⟩ := lh_ex (P := Try.prog) 25 Try.underlying25 1 Try.sizeOf5 a bs.length c m (m + n) (m : Int) ((m : Int) + (n : Int)) rfl (by omega) (by omega) hs2 hcap.1
          have hb3 := hrd W2 _ H2.out.1.rd
          rw [show m + n - m = n by omega] at hsl hb3
          rw [Nat.mul_one, Nat.mul_one, bytesV_drop, bytesV_take] at hb3
          have hcv : ∀ j, (convert 25 9 (.slice a' n (c - m))).run Try.prog (W2.drewN j) = .ok (.string ⟨((bs.drop m).take n).toArray⟩) (W2.drewN j) := fun j => run_bytes_str Try.underlying25 Try.underlying5 Try.underlying9 (hb3.later (drewN_below W2 j))
          clear hcap hrd hb3
          go_quiet (fail)
          have H3 := Lib.hid (H2.out.1.later (drewN_below W2 nq))
          have H4 := Lib.hid (H3.out.put (n := m + n) ((m : Int) + (n : Int)) (by omega) hs2)
          have HF4 := Lib.hid (H2.out.2.trans (Fr.ofBelow (drewN_below W2 nq) noCells) (fun _ _ h => h.elim))
          have z0 : (W2.drewN nq).cell? ⟨w.heap.size, 0, none⟩ = some (.pointer (some ⟨g, 0, none⟩)) := y0
          have z1 := H3.out.i
          have z2 := H3.out.fz
          clear y0 y1 r0 r1 hcv hsl
          generalize W2.drewN nq = W3 at *
          go_wp2
          go_ret2
          exact ⟨rfl, ⟨_, H4.out.1, fun _ => HK.out.symm⟩, atF_trans HF4.out H4.out.2⟩
    · have e1 : uV (some (n, k)) = 0 := if_neg hb
      have e2 : uE (some (n, k)) = 10 := if_neg hb
      have e3 : tE bs.length at_ most (some (n, k)) = 10 := by rw [tE_eq, if_neg hb]
      rw [e1, e2] at HU
      rw [e3, tV_no (by rw [e3]; decide)]
      clear e1 e2 e3 hb
      go_enter Try.func50, Try.ntmps50
      go_wp2_with (go_at_call 47; refine HU.out.mono ?_; rintro e w1 ⟨rfl, ⟨m, hr, hm⟩, hf⟩; have H1 := Lib.hid (And.intro hr hf); clear hr hf hm)
      go_ret2
      exact ⟨rfl, ⟨_, H1.out.1, fun h => by cases h⟩, atF_trans HF.out H1.out.2⟩
theorem rText_any (hl : bs.length ≤ 1000000) (w : World) (h : Rdr w g a c bs at_) (P : Option (Nat × Nat)) (hP : Fd.parse 0 (bs.drop at_) = P) :
    Calls Try.prog 35 #[.pointer (some ⟨g, 0, none⟩), .int .i64 most] w (OuterR w g a c bs (.string ⟨(tV bs at_ most P).toArray⟩) (tE bs.length at_ most P) (oN (tE bs.length at_ most P) (at_ + tA P) at_)) := by
  have hi := tRead_any g a c bs at_ most hl w h P hP
  unfold oN
  by_cases he : tE bs.length at_ most P = 0
  · rw [he] at hi ⊢
    have HI := Lib.hid (readT_ok g a c bs at_ most _ _ w h hi)
    clear h hi hP he
    generalize tV bs at_ most P = T at *
    go_enter Try.func35, Try.ntmps35
    go_wp2_with (go_at_call 49; refine HI.out.mono ?_; rintro e w1 ⟨rfl, hr, hf⟩; have H1 := Lib.hid (And.intro hr hf); clear hr hf)
    go_ret2
    exact ⟨rfl, H1.out.1, H1.out.2⟩
  · rw [if_neg he]
    have hz : tV bs at_ most P = [] := by
      cases P with
      | none => rfl
      | some q => exact tV_no he
    rw [hz]
    have HI := Lib.hid (readT_no g a c bs at_ most _ _ he _ w h hi)
    clear h hi hP he hz
    generalize tE bs.length at_ most P = err at *
    go_enter Try.func35, Try.ntmps35
    go_wp2_with (go_at_call 49; refine HI.out.mono ?_; rintro e w1 ⟨rfl, hr, hf⟩; have H1 := Lib.hid (And.intro hr hf); clear hr hf)
    go_ret2
    exact ⟨rfl, H1.out.1, H1.out.2⟩
end
end Go.Proofs.Ytapjdcofnigjhaa
