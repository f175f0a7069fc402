/- Rows there and back: plain. -/
import Derived.Test.YtapjdcofnigjhaaRows17
import Derived.Test.YtapjdcofnigjhaaField15
namespace Go.Proofs.Ytapjdcofnigjhaa
open Go.RowKit
theorem encR_same {f g : Nat → Int} : ∀ k, (∀ i, i < k → f i = g i) → encR f k = encR g k
  | 0, _ => rfl
  | k + 1, h => by rw [encR, encR, encR_same k (fun i hi => h i (by omega)), h k (by omega)]
theorem dec_encR {f : Nat → Int} (hf : InR f) : ∀ (k : Nat) (rest : List UInt8), ∃ l : List Int, Fd.dec (encR f k ++ rest) k = some ((encR f k).length, l) ∧ l.length = k ∧ ∀ i, i < k → l.getD i 0 = f i
  | 0, rest => ⟨[], rfl, rfl, fun i hi => by omega⟩
  | k + 1, rest => by
    obtain ⟨l, h1, h2, h3⟩ := dec_encR hf k (Fd.grp (Fd.zig (f k)) ++ rest)
    have hp : Fd.parse 0 ((encR f k ++ (Fd.grp (Fd.zig (f k)) ++ rest)).drop (encR f k).length) = some (Fd.zig (f k), (Fd.grp (Fd.zig (f k))).length) := by
      rw [List.drop_left]
      exact Fd.parse_back (Fd.zig_lt (hf k)) rest
    have h4 := Fd.dec_next h1 hp
    rw [Fd.zag_zig] at h4
    refine ⟨l ++ [f k], by rw [encR, List.append_assoc, h4, List.length_append], by rw [List.length_append, h2]; rfl, fun i hi => ?_⟩
    rw [getD_snoc]
    by_cases e : i = l.length
    · rw [if_pos e, e, h2]
    · rw [if_neg e]; exact h3 i (by omega)
theorem row_encR {f : Nat → Int} (hf : InR f) : ∃ l : List Int, Fd.row (encR f 4) = some l ∧ ∀ i, i < 4 → l.getD i 0 = f i := by
  obtain ⟨l, h1, _, h3⟩ := dec_encR hf 4 []
  rw [List.append_nil] at h1
  exact ⟨l, Fd.row_some h1 rfl, h3⟩
theorem encR_dec {B : List UInt8} : ∀ (k at_ : Nat) (l : List Int), Fd.dec B k = some (at_, l) → encR (fun i => l.getD i 0) k = B.take at_ ∧ l.length = k ∧ ∀ i, Fd.In (l.getD i 0)
  | 0, at_, l, h => by cases h; exact ⟨rfl, rfl, fun i => by show Fd.In 0; unfold Fd.In; omega⟩
  | k + 1, at_, l, h => by
    rw [Fd.dec] at h
    cases hd : Fd.dec B k with
    | none => rw [hd] at h; cases h
    | some p =>
      obtain ⟨a, l2⟩ := p
      rw [hd] at h
      simp only at h
      cases hp : Fd.parse 0 (B.drop a) with
      | none => rw [hp] at h; cases h
      | some q =>
        obtain ⟨n, c⟩ := q
        rw [hp] at h
        cases h
        obtain ⟨h1, h2, h3⟩ := encR_dec k a l2 hd
        obtain ⟨p1, p2, _, _, _⟩ := Fd.parse_at hp
        refine ⟨?_, by rw [List.length_append, h2]; rfl, fun i => ?_⟩
        · rw [encR, encR_same (g := fun i => l2.getD i 0) k (fun i hi => by rw [getD_snoc, if_neg (by omega)]), h1, getD_snoc, if_pos h2.symm, Fd.zig_zag, p2, List.take_add]
        · rw [getD_snoc]
          by_cases e : i = l2.length
          · rw [if_pos e]; exact Fd.zag_in p1
          · rw [if_neg e]; exact h3 i
theorem encR_row {B : List UInt8} {l : List Int} (h : Fd.row B = some l) : encR (fun i => l.getD i 0) 4 = B ∧ ∀ i, Fd.In (l.getD i 0) := by
  unfold Fd.row at h
  cases hd : Fd.dec B 4 with
  | none => rw [hd] at h; cases h
  | some p =>
    obtain ⟨a, l2⟩ := p
    rw [hd] at h
    simp only at h
    by_cases e : a = B.length
    · rw [if_pos e] at h
      cases h
      obtain ⟨h1, _, h3⟩ := encR_dec 4 a l hd
      exact ⟨by rw [h1, e, List.take_length], h3⟩
    · rw [if_neg e] at h; cases h
theorem rowF_at (f : Nat → Int) : ∀ i, i < 4 → rowF (f 0) (f 1) (f 2) (f 3) i = f i
  | 0, _ => rfl
  | 1, _ => rfl
  | 2, _ => rfl
  | 3, _ => rfl
end Go.Proofs.Ytapjdcofnigjhaa
