/- Joined: Law26. -/
import Derived.Test.YtbempjkkohjnbaaYLaw25
/- The laws of package cursor: moves; the state of a cursor that moves. -/
namespace Go.Proofs.Ytbempjkkohjnbaa
open Go.RowKit Tr
open Ky (less)
abbrev MOp := Int × TOp
def movesV (L : List MOp) : List Value := L.flatMap fun x => [.int .i64 x.1, .int .i64 x.2.1, .string ⟨x.2.2.1.toArray⟩, .string ⟨x.2.2.2.toArray⟩]
theorem movesV_length (L : List MOp) : (movesV L).length = L.length * 4 := by
  induction L with
  | nil => rfl
  | cons x L ih =>
    have : movesV (x :: L) = [.int .i64 x.1, .int .i64 x.2.1, .string ⟨x.2.2.1.toArray⟩, .string ⟨x.2.2.2.toArray⟩] ++ movesV L := by simp [movesV]
    rw [this, List.length_append, ih]
    simp
    omega
theorem movesV_one (L : List MOp) : ∀ u ∈ movesV L, u.oneCell' = true := by
  intro u hu
  obtain ⟨x, _, h⟩ := List.mem_flatMap.1 hu
  simp at h
  rcases h with rfl | rfl | rfl | rfl <;> rfl
theorem movesV_get {L : List MOp} {j : Nat} {x : MOp} (hj : L[j]? = some x) : (movesV L)[j * 4]? = some (.int .i64 x.1) ∧ (movesV L)[j * 4 + 1]? = some (.int .i64 x.2.1) ∧ (movesV L)[j * 4 + 2]? = some (.string ⟨x.2.2.1.toArray⟩) ∧ (movesV L)[j * 4 + 3]? = some (.string ⟨x.2.2.2.toArray⟩) := by
  induction L generalizing j with
  | nil => simp at hj
  | cons y L ih =>
    have hy : movesV (y :: L) = [.int .i64 y.1, .int .i64 y.2.1, .string ⟨y.2.2.1.toArray⟩, .string ⟨y.2.2.2.toArray⟩] ++ movesV L := by simp [movesV]
    cases j with
    | zero =>
      simp at hj
      subst hj
      rw [hy]
      simp
    | succ j =>
      obtain ⟨h0, h1, h2, h3⟩ := ih (by simpa using hj)
      rw [hy]
      refine ⟨?_, ?_, ?_, ?_⟩ <;> rw [List.getElem?_append_right (by simp; omega)]
      · rw [← h0]; congr 1; simp; omega
      · rw [← h1]; congr 1; simp; omega
      · rw [← h2]; congr 1; simp; omega
      · rw [← h3]; congr 1; simp; omega
theorem move_at {w : World} {a : Option Addr} {n c : Nat} {L : List MOp} (h : Rd w 4 a n c (movesV L)) {j : Nat} {x : MOp} (hj : L[j]? = some x) :
    ∃ b o, a = some ⟨b, o, none⟩ ∧ w.cell? ⟨b, o + j * 4, none⟩ = some (.int .i64 x.1) ∧ w.cell? ⟨b, o + j * 4 + 1, none⟩ = some (.int .i64 x.2.1) ∧ w.cell? ⟨b, o + j * 4 + 2, none⟩ = some (.string ⟨x.2.2.1.toArray⟩) ∧ w.cell? ⟨b, o + j * 4 + 3, none⟩ = some (.string ⟨x.2.2.2.toArray⟩) := by
  obtain ⟨h0, h1, h2, h3⟩ := movesV_get hj
  obtain ⟨b, o, e, hc⟩ := h.addr (by intro hn; rw [hn] at h0; simp at h0)
  refine ⟨b, o, e, hc _ _ h0, ?_, ?_, ?_⟩
  · have := hc _ _ h1
    rwa [← Nat.add_assoc] at this
  · have := hc _ _ h2
    rwa [← Nat.add_assoc] at this
  · have := hc _ _ h3
    rwa [← Nat.add_assoc] at this
/-- A move may be any. -/
def OkMove (x : MOp) : Prop := OkTop x.2
def nx (a : Str) (ys : List Pr) : Str := match ys with | [] => a | q :: _ => q.1 ++ [0]
section
variable {B : Nat} {w0 w : World} {X X' : List Rs} {b o r c : Nat} {L : List Pr} {s t at_ : Str}
theorem own_nextX {ys : List Pr} (h : Own B w0 (CurR c b s t at_ :: X) w) (hX : X.Perm (TreeR b o L :: X')) (hr : Tr.rng at_ t L = ys) (hk : ∀ p ∈ L, p.1.length ≤ 1000) :
    Calls Try.prog 25 #[ptrV c] w fun e V => e = .returned (.tuple #[.string ⟨(nk ys).toArray⟩, .string ⟨(nv ys).toArray⟩, .bool (!ys.isEmpty)]) ∧ Own B w0 (CurR c b s t (nx at_ ys) :: X) V := by
  have h2 := h.perm (List.Perm.cons _ hX)
  cases ys with
  | nil =>
    refine (own_next_stop h2 hr).mono ?_
    rintro e V ⟨rfl, hb⟩
    exact ⟨rfl, h.later hb⟩
  | cons q rest =>
    refine (own_next_go h2 hr hk).mono ?_
    rintro e V ⟨rfl, h3, h4⟩
    exact ⟨rfl, h3.perm (List.Perm.cons _ hX.symm)⟩
end
/-- The document's Next tells what the cursor does. -/
theorem next_same {s t a : Str} {td : Bool} {L : List Pr} {n : Int} (h : less a s = false) (hn : NextSays s t a td L n) :
    (n = -1 ∧ Tr.rng (atN a td) t L = []) ∨ ∃ (k : Nat) (p : Pr), n = k ∧ L[k]? = some p ∧ ∃ rest, Tr.rng (atN a td) t L = p :: rest := by
  have e : L.filter (isN s t a td) = Tr.rng (atN a td) t L := by
    unfold Tr.rng
    congr 1
    funext p
    exact isN_eq h p
  unfold NextSays at hn
  rw [e] at hn
  exact hn
theorem next_ahead {s t a : Str} {td : Bool} {L : List Pr} {p : Pr} {rest : List Pr} (h : less a s = false) (hr : Tr.rng (atN a td) t L = p :: rest) : less p.1 s = false := by
  have hm : p ∈ Tr.rng (atN a td) t L := by rw [hr]; simp
  have h2 := (rng_mem.1 hm).2
  rw [← isN_eq h p] at h2
  unfold isN inR at h2
  simp at h2
  exact h2.1.1
end Go.Proofs.Ytbempjkkohjnbaa
