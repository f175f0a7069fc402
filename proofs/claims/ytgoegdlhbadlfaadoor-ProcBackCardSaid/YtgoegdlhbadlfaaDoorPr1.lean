/- Package proc, plain: ops, their words and fields, what is wrong with a procedure, how many steps it has. -/
import Derived.Test.YtgoegdlhbadlfaaDoorMem
namespace Go.Proofs.YtgoegdlhbadlfaaDoor
namespace Pc
abbrev Str := List UInt8
/-- An op: what it does, and its four fields. -/
abbrev OpP := Int × Int × Int × Int × Int
def fld (x : OpP) : Nat → Int
  | 0 => x.2.1
  | 1 => x.2.2.1
  | 2 => x.2.2.2.1
  | _ => x.2.2.2.2
def opV (x : OpP) : List Value := [.int .i64 x.1, .int .i64 x.2.1, .int .i64 x.2.2.1, .int .i64 x.2.2.2.1, .int .i64 x.2.2.2.2]
def opsV (l : List OpP) : List Value := l.flatMap opV
/-- The fields that an op has, in order. -/
def hasN : Nat → List Nat
  | 0 => []
  | 1 => [0, 2]
  | 8 => [0, 1, 2]
  | 10 => [1]
  | 11 => [0, 1, 2]
  | 12 => [0, 1, 2, 3]
  | 13 => [0, 3]
  | 14 => [2, 3]
  | 15 => [0]
  | n => if n < 15 then [0, 1] else []
def letter : Nat → UInt8
  | 0 => 65
  | 1 => 66
  | 2 => 67
  | _ => 78
def hasS (n : Nat) : Str := (hasN n).map letter
def wordN : Nat → Str
  | 1 => [115, 101, 116]
  | 2 => [99, 111, 112, 121]
  | 3 => [97, 100, 100]
  | 4 => [115, 117, 98]
  | 5 => [109, 117, 108]
  | 6 => [108, 101, 115, 115]
  | 7 => [104, 97, 115]
  | 8 => [103, 101, 116]
  | 9 => [112, 117, 116]
  | 10 => [100, 101, 108, 101, 116, 101]
  | 11 => [102, 105, 110, 100]
  | 12 => [99, 111, 117, 110, 116]
  | 13 => [105, 102]
  | 14 => [108, 111, 111, 112]
  | 15 => [97, 98, 111, 114, 116]
  | _ => []
def big : Int := 1099511627776
/-- From where to where a field may be. -/
def loP (do_ : Int) (f : Nat) : Int := if f = 2 ∧ do_ = 1 then -big else 0
def hiP (do_ : Int) (f : Nat) : Int :=
  if f = 0 then (if do_ = 9 then 4 else 7) else if f = 1 then 7 else if f = 2 then (if do_ = 1 then big else if do_ = 14 then 16 else 3) else (if do_ = 12 then big else 64)
def isDo (x : OpP) : Prop := 1 ≤ x.1 ∧ x.1 ≤ 15
instance (x : OpP) : Decidable (isDo x) := by unfold isDo; infer_instance
def noX (x : OpP) (f : Nat) : Bool := (hasN x.1.toNat).contains f || decide (fld x f = 0)
def formedP (x : OpP) : Bool := decide (isDo x) && (noX x 0 && (noX x 1 && (noX x 2 && noX x 3)))
def inX (x : OpP) (f : Nat) : Bool := decide (loP x.1 f ≤ fld x f ∧ fld x f ≤ hiP x.1 f)
def rangedP (x : OpP) : Bool := (hasN x.1.toNat).all (inX x)
def holdsP (x : OpP) : Bool := decide (x.1 = 13 ∨ x.1 = 14)
/-- The ends that are behind a place. -/
def pop (at_ : Int) : List Int → List Int
  | [] => []
  | e :: es => if e ≤ at_ then pop at_ es else e :: es
/-- Are the rest of the ops nested right? (ends: the innermost first; n: how many ops there are in all) -/
def nestG (n : Int) : List OpP → Int → List Int → Bool
  | [], _, _ => true
  | x :: l, i, es =>
    let es1 := pop i es
    if 8 < es1.length then false
    else if holdsP x then (if (es1.headD n) < i + 1 + x.2.2.2.2 then false else nestG n l (i + 1) ((i + 1 + x.2.2.2.2) :: es1))
    else nestG n l (i + 1) es1
def nestedP (l : List OpP) : Bool := nestG l.length l 0 []
/-- What is wrong with a procedure. -/
def checkP (l : List OpP) : Int := if 64 < l.length then 23 else if l.all formedP then (if l.all rangedP then (if nestedP l then 0 else 11) else 10) else 11
/-- How many steps ops have, one by one; a loop's own are those of what it holds. -/
def stepsG : Nat → List OpP → Int
  | 0, _ => 0
  | _ + 1, [] => 0
  | k + 1, x :: l => if x.1 = 14 then (1 + x.2.2.2.1 * (1 + min (stepsG k (l.take x.2.2.2.2.toNat)) 10001)) + stepsG k (l.drop x.2.2.2.2.toNat) else 1 + stepsG k l
def stepsP (l : List OpP) : Int := min (stepsG l.length l) 10001
theorem hasN_lt : ∀ n, ∀ f ∈ hasN n, f < 4 := by
  intro n f hf
  unfold hasN at hf
  split at hf <;> (try (split at hf)) <;> simp at hf <;> omega
theorem hasN_len (n : Nat) : (hasN n).length ≤ 4 := by
  unfold hasN
  split <;> (try split) <;> simp
theorem letter_inj {f g : Nat} (hf : f < 4) (hg : g < 4) (e : letter f = letter g) : f = g := by
  have h1 : f = 0 ∨ f = 1 ∨ f = 2 ∨ f = 3 := by omega
  have h2 : g = 0 ∨ g = 1 ∨ g = 2 ∨ g = 3 := by omega
  rcases h1 with rfl | rfl | rfl | rfl <;> rcases h2 with rfl | rfl | rfl | rfl <;> first | rfl | (exfalso; revert e; decide)
theorem hasS_contains {n f : Nat} (hf : f < 4) : (hasS n).contains (letter f) = (hasN n).contains f := by
  have h : ∀ l : List Nat, (∀ g ∈ l, g < 4) → (l.map letter).contains (letter f) = l.contains f := by
    intro l
    induction l with
    | nil => intro _; rfl
    | cons g l ih =>
      intro hl
      rw [List.map_cons, List.contains_cons, List.contains_cons, ih (fun x hx => hl x (List.mem_cons_of_mem _ hx))]
      have hg := hl g (List.mem_cons_self ..)
      congr 1
      by_cases e : f = g
      · subst e; simp
      · have : letter f ≠ letter g := fun h => e (letter_inj hf hg h)
        rw [beq_eq_false_iff_ne.2 this, beq_eq_false_iff_ne.2 e]
  exact h _ (hasN_lt n)
theorem opsV_cons (x : OpP) (l : List OpP) : opsV (x :: l) = .int .i64 x.1 :: .int .i64 x.2.1 :: .int .i64 x.2.2.1 :: .int .i64 x.2.2.2.1 :: .int .i64 x.2.2.2.2 :: opsV l := rfl
theorem opsV_app (a b : List OpP) : opsV (a ++ b) = opsV a ++ opsV b := by unfold opsV; simp
theorem opsV_len (l : List OpP) : (opsV l).length = l.length * 5 := by
  induction l with
  | nil => rfl
  | cons x l ih => rw [opsV_cons]; simp only [List.length_cons]; rw [ih]; omega
theorem opsV_one (l : List OpP) : ∀ u ∈ opsV l, u.oneCell' = true := by
  intro u hu
  obtain ⟨x, _, h⟩ := List.mem_flatMap.1 hu
  simp only [opV, List.mem_cons, List.not_mem_nil, or_false] at h
  rcases h with rfl | rfl | rfl | rfl | rfl <;> rfl
theorem opsV_get : ∀ {l : List OpP} {j : Nat} {x : OpP}, l[j]? = some x → ∀ i, i < 5 → (opsV l)[j * 5 + i]? = (opV x)[i]?
  | [], j, x, h, _, _ => by simp at h
  | y :: l, 0, x, h, i, hi => by
    simp at h; subst h
    rw [show opsV (y :: l) = opV y ++ opsV l from rfl, Nat.zero_mul, Nat.zero_add, List.getElem?_append_left (by simpa [opV] using hi)]
  | y :: l, j + 1, x, h, i, hi => by
    have := opsV_get (l := l) (j := j) (x := x) (by simpa using h) i hi
    rw [show opsV (y :: l) = opV y ++ opsV l from rfl, List.getElem?_append_right (by simp [opV]; omega), ← this]
    congr 1
    show (j + 1) * 5 + i - 5 = j * 5 + i
    omega
theorem op_at {w : World} {a : Option Addr} {n c : Nat} {l : List OpP} (h : Rd w 5 a n c (opsV l)) {j : Nat} {x : OpP} (hj : l[j]? = some x) :
    ∃ b o, a = some ⟨b, o, none⟩ ∧ ∀ i u, i < 5 → (opV x)[i]? = some u → w.cell? ⟨b, o + j * 5 + i, none⟩ = some u := by
  have hg := opsV_get hj
  obtain ⟨b, o, h1, h2⟩ := h.addr (by
    intro h0
    have h3 := hg 0 (by omega)
    rw [h0] at h3
    cases h3)
  refine ⟨b, o, h1, fun i u hi hu => ?_⟩
  rw [Nat.add_assoc]
  exact h2 _ _ ((hg i hi).trans hu)
theorem opsV_take (l : List OpP) (P : Nat) : (opsV l).take (P * 5) = opsV (l.take P) := by
  by_cases h : P ≤ l.length
  · have h1 : opsV l = opsV (l.take P) ++ opsV (l.drop P) := by rw [← opsV_app, List.take_append_drop]
    rw [h1, List.take_left' (by rw [opsV_len, List.length_take, Nat.min_eq_left h])]
  · rw [List.take_of_length_le (l := l) (by omega), List.take_of_length_le (by rw [opsV_len]; omega)]
theorem opsV_drop (l : List OpP) (P : Nat) : (opsV l).drop (P * 5) = opsV (l.drop P) := by
  by_cases h : P ≤ l.length
  · have h1 : opsV l = opsV (l.take P) ++ opsV (l.drop P) := by rw [← opsV_app, List.take_append_drop]
    rw [h1, List.drop_left' (by rw [opsV_len, List.length_take, Nat.min_eq_left h])]
  · rw [List.drop_of_length_le (l := l) (by omega), List.drop_of_length_le (by rw [opsV_len]; omega)]; rfl
end Pc
end Go.Proofs.YtgoegdlhbadlfaaDoor
