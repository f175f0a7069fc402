/- The checker's list of workers: does, Give, Take; the law's idle. -/
import Derived.Test.YtpfcghigfkhimaaSched12
import Derived.Test.YtpfcghigfkhimaaMemS
namespace Go.Proofs.Ytpfcghigfkhimaa
open Go.RowKit

/-- A worker's cells; a list's. -/
def wkV (o : Option Int) : List Value := [.int .i64 (o.getD 0), .bool o.isSome]
def wksV (st : List (Option Int)) : List Value := st.flatMap wkV
theorem wksV_length (st : List (Option Int)) : (wksV st).length = st.length * 2 := by
  induction st with
  | nil => rfl
  | cons o st ih =>
    have : wksV (o :: st) = wkV o ++ wksV st := by simp [wksV]
    rw [this, List.length_append, ih, List.length_cons]
    simp [wkV]
    omega
theorem wksV_one (st : List (Option Int)) : ∀ u ∈ wksV st, u.oneCell' = true := by
  intro u hu
  obtain ⟨e, _, h⟩ := List.mem_flatMap.1 hu
  simp only [wkV, List.mem_cons, List.not_mem_nil, or_false] at h
  rcases h with rfl | rfl <;> rfl
theorem wksV_get {st : List (Option Int)} {j : Nat} {x : Option Int} (hj : st[j]? = some x) : (wksV st)[j * 2]? = some (.int .i64 (x.getD 0)) ∧ (wksV st)[j * 2 + 1]? = some (.bool x.isSome) := by
  induction st generalizing j with
  | nil => simp at hj
  | cons y st ih =>
    have hy : wksV (y :: st) = [.int .i64 (y.getD 0), .bool y.isSome] ++ wksV st := by simp [wksV, wkV]
    match j with
    | 0 =>
      simp at hj
      subst hj
      rw [hy]
      simp
    | j + 1 =>
      obtain ⟨h0, h1⟩ := ih (j := j) (by simpa using hj)
      rw [hy]
      refine ⟨?_, ?_⟩
      · rw [List.getElem?_append_right (by simp; omega)]; rw [← h0]; congr 1; simp; omega
      · rw [List.getElem?_append_right (by simp; omega)]; rw [← h1]; congr 1; simp; omega
theorem wksV_append (a b : List (Option Int)) : wksV (a ++ b) = wksV a ++ wksV b := by simp [wksV]
theorem wksV_set (st : List (Option Int)) (i : Nat) (hi : i < st.length) (o : Option Int) : wksV (st.set i o) = (wksV st).take (i * 2) ++ wkV o ++ (wksV st).drop ((i + 1) * 2) := by
  have h1 : st.set i o = st.take i ++ [o] ++ st.drop (i + 1) := by
    rw [List.set_eq_take_append_cons_drop, if_pos hi]; simp
  have h2 : st = st.take i ++ st.drop i := (List.take_append_drop i st).symm
  have h3 : st = st.take (i + 1) ++ st.drop (i + 1) := (List.take_append_drop (i + 1) st).symm
  rw [h1, wksV_append, wksV_append]
  have e1 : (wksV st).take (i * 2) = wksV (st.take i) := by
    conv => lhs; rw [h2, wksV_append]
    rw [List.take_left' (by rw [wksV_length, List.length_take]; omega)]
  have e2 : (wksV st).drop ((i + 1) * 2) = wksV (st.drop (i + 1)) := by
    conv => lhs; rw [h3, wksV_append]
    rw [List.drop_left' (by rw [wksV_length, List.length_take]; omega)]
  rw [e1, e2]
  simp [wksV]
theorem wk_at {w : World} {a : Option Addr} {n c : Nat} {st : List (Option Int)} (h : Rd w 2 a n c (wksV st)) {j : Nat} {x : Option Int} (hj : st[j]? = some x) :
    ∃ b o, a = some ⟨b, o, none⟩ ∧ w.cell? ⟨b, o + j * 2, none⟩ = some (.int .i64 (x.getD 0)) ∧ w.cell? ⟨b, o + j * 2 + 1, none⟩ = some (.bool x.isSome) := by
  obtain ⟨h0, h1⟩ := wksV_get hj
  obtain ⟨b, o, e, hc⟩ := h.addr (by intro hn; rw [hn] at h0; simp at h0)
  refine ⟨b, o, e, hc _ _ h0, ?_⟩
  have := hc _ _ h1
  rwa [← Nat.add_assoc] at this
theorem Try.infoWk : (Try.prog.info? 51).map (fun i => (i.zero, i.size, i.bytes)) = some (some (.agg #[.int .i64 0, .bool false]), 2, 16) := by kernel_rfl

theorem refDoes_any (a : Option Addr) (c : Nat) (st : List (Option Int)) (id : Int) (hn : st.length ≤ 16) (w : World) (h : Rd w 2 a st.length c (wksV st)) :
    Calls Try.prog 24 #[.slice a st.length c, .int .i64 id] w fun e w' => e = .returned (.bool (decide (some id ∈ st))) ∧ w = w' := by
  have HR := Lib.hid h
  clear h
  generalize hres : decide (some id ∈ st) = res
  have HRES := Lib.hid hres
  clear hres
  go_enter Try.func24, Try.ntmps24
  go_wp2
  go_loopw [5] (fun i wr => ∃ (k : Nat), k ≤ st.length ∧ i = .int .i64 k ∧ Hid (some id ∉ st.take k) ∧ wr = w) (fun i _ => st.length - (intOf i).toNat)
  case atStart => exact ⟨0, by omega, rfl, Lib.hid (by simp), rfl⟩
  case round =>
    obtain ⟨k, hk, rfl, HN, rfl⟩ := hrel
    by_cases hlt : k < st.length
    · obtain ⟨x, hx⟩ : ∃ x, st[k]? = some x := ⟨_, List.getElem?_eq_getElem hlt⟩
      obtain ⟨b, o, rfl, x0, x1⟩ := wk_at HR.out hx
      have HX := Lib.hid hx
      have k0 : (0 : Int) ≤ (k : Int) := by omega
      have k1 : (k : Int) < (st.length : Int) := by omega
      clear hx
      have HS : Hid (some id ∉ st.take (k + 1) ↔ x ≠ some id) := Lib.hid (by
        rw [List.take_add_one, HX.out]
        simp only [Option.toList_some, List.mem_append, List.mem_singleton, HN.out, false_or]
        exact not_congr eq_comm)
      cases x with
      | none =>
        simp only [Option.getD_none, Option.isSome_none] at x0 x1
        go_wp2
        go_roundw
        case rel => exact ⟨k + 1, by omega, by go_num, Lib.hid (HS.out.2 (by simp)), by first | trivial | rfl⟩
        case measure => simp [intOf]; omega
      | some d =>
        simp only [Option.getD_some, Option.isSome_some] at x0 x1
        by_cases hd : d = id
        · subst hd
          have hr : res = true := by rw [← HRES.out, decide_eq_true_eq]; exact List.mem_of_getElem? HX.out
          subst hr
          go_wp2
          go_ret
          exact ⟨rfl, rfl⟩
        · go_wp2
          go_roundw
          case rel => exact ⟨k + 1, by omega, by go_num, Lib.hid (HS.out.2 (by simpa using hd)), by first | trivial | rfl⟩
          case measure => simp [intOf]; omega
    · obtain rfl : k = st.length := by omega
      have hr : res = false := by rw [← HRES.out, decide_eq_false_iff_not]; simpa using HN.out
      subst hr
      go_wp2
      go_ret
      exact ⟨rfl, rfl⟩
end Go.Proofs.Ytpfcghigfkhimaa
