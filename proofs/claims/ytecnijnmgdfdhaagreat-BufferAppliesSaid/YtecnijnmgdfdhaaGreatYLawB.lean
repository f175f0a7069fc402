/- Joined: Tblaw6, Tblaw7. -/
import Derived.Test.YtecnijnmgdfdhaaGreatYLawA
/- What Find tells, plain: the entries of the values asked for, in order. No program in sight. -/
namespace Go.Proofs.YtecnijnmgdfdhaaGreat
namespace Tb
open Tr
open Ky (less)
/-- What holds of a beginning parts a list. -/
theorem parted {α : Type} (q : α → Bool) : ∀ {l : List α}, l.Pairwise (fun a b => q b = true → q a = true) → l = l.filter q ++ l.filter (fun x => !q x)
  | [], _ => rfl
  | x :: l, h => by
    have h' := List.pairwise_cons.1 h
    cases hx : q x with
    | true =>
      rw [List.filter_cons_of_pos hx, List.filter_cons_of_neg (by simp [hx]), List.cons_append, ← parted q h'.2]
    | false =>
      have hall : ∀ y ∈ l, q y = false := fun y hy => by
        cases hy' : q y with
        | false => rfl
        | true => have := h'.1 y hy hy'; rw [hx] at this; cases this
      rw [List.filter_cons_of_neg (by simp [hx]), List.filter_cons_of_pos (by simp [hx])]
      rw [List.filter_eq_nil_iff.2 (fun y hy => by simp [hall y hy]), List.nil_append]
      rw [List.filter_eq_self.2 (fun y hy => by simp [hall y hy])]
end Tb
end Go.Proofs.YtecnijnmgdfdhaaGreat

/- The laws of package table: Find as a resource; how many keys it tells; the row of a key that it tells. -/
namespace Go.Proofs.YtecnijnmgdfdhaaGreat
namespace Tb
open Go.RowKit Tr
open Ky (less)
section
variable {B : Nat} {w0 w V : World} {X Y : List Rs} {tb r most o : Nat} {L : List Pr}
end
end Tb
end Go.Proofs.YtecnijnmgdfdhaaGreat
