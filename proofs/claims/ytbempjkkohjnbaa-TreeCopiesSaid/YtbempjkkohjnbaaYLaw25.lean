/- Joined: Law25. -/
import Derived.Test.YtbempjkkohjnbaaYLaw23
import Derived.Test.YtbempjkkohjnbaaYRes
/- The laws of package cursor: the document's Next. -/
namespace Go.Proofs.Ytbempjkkohjnbaa
open Go.RowKit Tr
open Ky (less)
/-- What the document's Next looks for. -/
def isN (s t a : Str) (td : Bool) (p : Pr) : Bool := inR s t p && (less a p.1 || (p.1 == a && !td))
/-- From where a cursor goes on. -/
def atN (a : Str) (td : Bool) : Str := if td then a ++ [0] else a
theorem isN_eq {s t a : Str} {td : Bool} (h : less a s = false) (p : Pr) : isN s t a td p = inR (atN a td) t p := by
  unfold isN inR atN
  rcases Ky.less_trich a p.1 with e | e | e
  · cases td
    · subst e; simp [h, Ky.less_self]
    · subst e; simp [less_nul, Ky.less_self]
  · have h1 := Ky.less_asymm e
    have h2 : less p.1 s = false := by
      cases h3 : less p.1 s with
      | false => rfl
      | true => rw [Tr.less_trans e h3] at h; cases h
    have h3 : (p.1 == a) = false := by
      have := Tr.less_ne e
      simp; exact fun x => this x.symm
    cases td <;> simp [e, h1, h2, h3, less_nul]
  · have h1 := Ky.less_asymm e
    have h3 : (p.1 == a) = false := by
      have := Tr.less_ne e
      simpa using this
    cases td <;> simp [e, h1, h3, less_nul]
/-- What the document's Next answers. -/
def NextSays (s t a : Str) (td : Bool) (L : List Pr) (n : Int) : Prop :=
  (n = -1 ∧ L.filter (isN s t a td) = []) ∨ ∃ (k : Nat) (p : Pr), n = k ∧ L[k]? = some p ∧ ∃ rest, L.filter (isN s t a td) = p :: rest
theorem filter_first {f : Pr → Bool} {L : List Pr} {j : Nat} {p : Pr} (h0 : (L.take j).filter f = []) (hp : L[j]? = some p) (hf : f p = true) : ∃ rest, L.filter f = p :: rest := by
  obtain ⟨h1, h2⟩ := List.getElem?_eq_some_iff.1 hp
  have e : L.filter f = (L.take j).filter f ++ (L.drop j).filter f := by rw [← List.filter_append, List.take_append_drop]
  refine ⟨(L.drop (j + 1)).filter f, ?_⟩
  rw [e, h0, List.drop_eq_getElem_cons h1, h2]
  simp [hf]
theorem filter_none_succ {f : Pr → Bool} {L : List Pr} {j : Nat} {p : Pr} (h0 : (L.take j).filter f = []) (hp : L[j]? = some p) (hf : f p = false) : (L.take (j + 1)).filter f = [] := by
  rw [List.take_add_one, hp, List.filter_append, h0]
  simp [hf]
set_option maxHeartbeats 4000000 in
set_option maxRecDepth 100000 in
theorem nextD_any (r : Nat) (F : Foot) (la : Option Addr) (lc : Nat) (L : List Pr) (s t a : Str) (td : Bool) (hn : L.length ≤ 100000) (w : World) (h : Lst w r F la lc L) :
    Calls Try.prog 40 #[ptrV r, .agg #[.string ⟨s.toArray⟩, .string ⟨t.toArray⟩], .string ⟨a.toArray⟩, .bool td] w fun e V => ∃ n, e = .returned (.int .i64 n) ∧ NextSays s t a td L n ∧ Below w.heap.size w V := by
  obtain ⟨W, hW⟩ : ∃ W, w.alloc (.cells #[.string ⟨s.toArray⟩, .string ⟨t.toArray⟩] 67) = W := ⟨_, rfl⟩
  have hb0 : Below w.heap.size w W := by rw [← hW]; exact al1 w _
  have HX : Hid (∀ V, Below W.heap.size W V → V.cell? ⟨w.heap.size, 0, none⟩ = some (.string ⟨s.toArray⟩) ∧ V.cell? ⟨w.heap.size, 1, none⟩ = some (.string ⟨t.toArray⟩) ∧ Lst V r F la lc L ∧ Below w.heap.size w V) := Lib.hid (fun V hb => by
    have hbw := hb0.trans (hb.mono hb0.size)
    exact ⟨old_cell (by rw [← hW]; simp) hb, old_cell (by rw [← hW]; simp) hb, h.later hbw, hbw⟩)
  obtain ⟨N, hN⟩ : ∃ N, L.length = N := ⟨_, rfl⟩
  have HN := Lib.hid hN
  rw [hN] at hn
  clear h hb0 hN
  go_enter Try.func40, Try.ntmps40
  go_wp2
  clear hW
  go_loopw [9] (fun i wr => ∃ (j : Nat), j ≤ N ∧ i = .int .i64 j ∧ Hid ((L.take j).filter (isN s t a td) = [] ∧ Below W.heap.size W wr)) (fun i _ => N - (intOf i).toNat)
  case atStart => exact ⟨0, by omega, rfl, Lib.hid ⟨rfl, Below.refl _ _⟩⟩
  case round =>
    obtain ⟨j, hj, rfl, HJ⟩ := hrel
    obtain ⟨x0, x1, hl, _⟩ := HX.out wr HJ.out.2
    have z0 := hl.c0
    rw [HN.out] at z0
    have g0 : (0 : Int) ≤ (j : Int) := by omega
    by_cases hlt : j < N
    · have g1 : (j : Int) < (N : Int) := by omega
      have hd1 : decide ((j : Int) < (N : Int)) = true := decide_eq_true g1
      obtain ⟨p, hp⟩ : ∃ p, L[j]? = some p := ⟨_, List.getElem?_eq_getElem (by rw [HN.out]; exact hlt)⟩
      obtain ⟨pb, po, rfl, y1, y2⟩ := hl.pair hp
      have HI := Lib.hid (fun W => in_any p s t W)
      have HP := Lib.hid hp
      have q2 := str_gtr 9 p.1 a
      have q3 := str_eql 9 p.1 a
      have HV : Hid (isN s t a td p = (inR s t p && (Op.bytesLess a p.1 || (p.1 == a && !td)))) := Lib.hid rfl
      clear hl hp
      cases h1 : inR s t p with
      | false =>
        rw [h1] at HI HV
        rw [Bool.false_and] at HV
        have HE : Hid ((L.take (j + 1)).filter (isN s t a td) = []) := Lib.hid (filter_none_succ HJ.out.1 HP.out HV.out)
        go_wp2_with (go_at_call 38; refine (HI.out _).mono ?_; rintro e V ⟨rfl, rfl⟩)
        go_roundw
        case rel => exact ⟨j + 1, by omega, by go_num, Lib.hid ⟨HE.out, HJ.out.2⟩⟩
        case measure => simp [intOf]; omega
      | true =>
        rw [h1] at HI HV
        cases h2 : Op.bytesLess a p.1 with
        | true =>
          rw [h2] at q2 HV
          rw [Bool.true_or, Bool.true_and] at HV
          have HE := Lib.hid (filter_first HJ.out.1 HP.out HV.out)
          go_wp2_with (go_at_call 38; refine (HI.out _).mono ?_; rintro e V ⟨rfl, rfl⟩)
          go_ret
          exact ⟨_, rfl, .inr ⟨j, p, rfl, HP.out, HE.out⟩, (HX.out wr HJ.out.2).2.2.2⟩
        | false =>
          rw [h2] at q2 HV
          cases h3 : p.1 == a with
          | false =>
            rw [h3] at q3 HV
            rw [Bool.false_and, Bool.false_or, Bool.and_false] at HV
            have HE : Hid ((L.take (j + 1)).filter (isN s t a td) = []) := Lib.hid (filter_none_succ HJ.out.1 HP.out HV.out)
            go_wp2_with (go_at_call 38; refine (HI.out _).mono ?_; rintro e V ⟨rfl, rfl⟩)
            go_roundw
            case rel => exact ⟨j + 1, by omega, by go_num, Lib.hid ⟨HE.out, HJ.out.2⟩⟩
            case measure => simp [intOf]; omega
          | true =>
            rw [h3] at q3 HV
            cases td with
            | true =>
              rw [Bool.not_true, Bool.and_false, Bool.false_or, Bool.and_false] at HV
              have HE : Hid ((L.take (j + 1)).filter (isN s t a true) = []) := Lib.hid (filter_none_succ HJ.out.1 HP.out HV.out)
              go_wp2_with (go_at_call 38; refine (HI.out _).mono ?_; rintro e V ⟨rfl, rfl⟩)
              go_roundw
              case rel => exact ⟨j + 1, by omega, by go_num, Lib.hid ⟨HE.out, HJ.out.2⟩⟩
              case measure => simp [intOf]; omega
            | false =>
              rw [Bool.not_false, Bool.and_true, Bool.false_or, Bool.and_true] at HV
              have HE := Lib.hid (filter_first HJ.out.1 HP.out HV.out)
              go_wp2_with (go_at_call 38; refine (HI.out _).mono ?_; rintro e V ⟨rfl, rfl⟩)
              go_ret
              exact ⟨_, rfl, .inr ⟨j, p, rfl, HP.out, HE.out⟩, (HX.out wr HJ.out.2).2.2.2⟩
    · obtain rfl : j = N := by omega
      have hd1 : decide ((j : Int) < (j : Int)) = false := decide_eq_false (by omega)
      clear hl
      go_wp2
      go_ret
      have e := HJ.out.1
      rw [← HN.out, List.take_length] at e
      exact ⟨_, rfl, .inl ⟨rfl, e⟩, (HX.out wr HJ.out.2).2.2.2⟩
end Go.Proofs.Ytbempjkkohjnbaa
