/- Package proc, plain: the text of a procedure, and that its lines are read as what was written, and the other way round. -/
import Derived.Test.YtgoegdlhbadlfaaDoorPr14
import Derived.Lib.ItoaLen
import Derived.Lib.IndexBytes
namespace Go.Proofs.YtgoegdlhbadlfaaDoor
namespace Pc
def bodyP (x : OpP) : Str := wordN x.1.toNat ++ (hasN x.1.toNat).flatMap fun f => 32 :: Lib.itoa (fld x f)
def lineP (x : OpP) : Str := bodyP x ++ [10]
def textP (l : List OpP) : Str := l.flatMap lineP
/-! Numbers. -/
theorem decFrom_app : ∀ (l : Str) (acc : Nat) (b : UInt8), Lib.decFrom acc (l ++ [b]) = (Lib.decFrom acc l).bind fun n => (Lib.digitVal b).map fun d => n * 10 + d
  | [], acc, b => by
    simp only [List.nil_append, Lib.decFrom, Option.bind_some]
    cases Lib.digitVal b <;> rfl
  | a :: l, acc, b => by
    simp only [List.cons_append, Lib.decFrom]
    cases Lib.digitVal a with
    | none => rfl
    | some d => exact decFrom_app l _ b
theorem digit_byte {d : Nat} (h : d < 10) : (UInt8.ofNat (48 + d)).toNat = 48 + d := by
  rw [UInt8.toNat_ofNat']
  omega
theorem digitVal_of {d : Nat} (h : d < 10) : Lib.digitVal (UInt8.ofNat (48 + d)) = some d := by
  unfold Lib.digitVal
  rw [digit_byte h, if_pos (by omega)]
  congr 1
  omega
theorem decFrom_digits (u : Nat) : Lib.decFrom 0 (Lib.decDigits u) = some u := by
  induction u using Nat.strongRecOn with
  | _ u ih =>
    by_cases h : u < 10
    · rw [Lib.decDigits, dif_pos h]
      simp only [Lib.decFrom, digitVal_of h]
      congr 1
      omega
    · rw [Lib.decDigits, dif_neg h, decFrom_app, ih (u / 10) (by omega), Option.bind_some, digitVal_of (by omega)]
      simp only [Option.map_some]
      congr 1
      omega
theorem digits_mem (u : Nat) : ∀ b ∈ Lib.decDigits u, 48 ≤ b.toNat ∧ b.toNat ≤ 57 := by
  induction u using Nat.strongRecOn with
  | _ u ih =>
    intro b hb
    by_cases h : u < 10
    · rw [Lib.decDigits, dif_pos h] at hb
      rw [List.mem_singleton.1 hb, digit_byte h]
      omega
    · rw [Lib.decDigits, dif_neg h] at hb
      rcases List.mem_append.1 hb with hb | hb
      · exact ih (u / 10) (by omega) b hb
      · rw [List.mem_singleton.1 hb, digit_byte (by omega)]
        omega
theorem digits_cons (u : Nat) : ∃ b l, Lib.decDigits u = b :: l ∧ 48 ≤ b.toNat := by
  cases h : Lib.decDigits u with
  | nil =>
    have := congrArg List.length h
    rw [Lib.decDigits_length] at this
    have := Lib.nDigits_pos u
    simp at *
    omega
  | cons b l => exact ⟨b, l, rfl, (digits_mem u b (by rw [h]; exact List.mem_cons_self ..)).1⟩
theorem decNat_digits (u : Nat) : Lib.decNat (Lib.decDigits u) = some u := by
  unfold Lib.decNat
  obtain ⟨b, l, h, _⟩ := digits_cons u
  rw [if_neg (by rw [h]; simp), decFrom_digits]
theorem atoi_itoa (n : Int) : Lib.atoi (Lib.itoa n) = some n := by
  unfold Lib.itoa
  by_cases h : n < 0
  · rw [if_pos h]
    unfold Lib.atoi
    simp only [beq_self_eq_true, if_true, decNat_digits, Option.map_some]
    congr 1
    omega
  · rw [if_neg h]
    obtain ⟨b, l, hb, h1⟩ := digits_cons n.toNat
    have h2 := decNat_digits n.toNat
    rw [hb] at h2 ⊢
    unfold Lib.atoi
    have e1 : (b == 45) = false := by
      rw [beq_eq_false_iff_ne]
      intro e; subst e; exact absurd h1 (by decide)
    have e2 : (b == 43) = false := by
      rw [beq_eq_false_iff_ne]
      intro e; subst e; exact absurd h1 (by decide)
    simp only [e1, e2, h2, Bool.false_eq_true, if_false, Option.map_some]
    congr 1
    omega
theorem itoa_mem (n : Int) : ∀ b ∈ Lib.itoa n, b ≠ 32 ∧ b ≠ 10 := by
  have hd : ∀ u, ∀ b ∈ Lib.decDigits u, b ≠ 32 ∧ b ≠ 10 := fun u b hb => by
    have := digits_mem u b hb
    constructor <;> (intro e; subst e; exact absurd this.1 (by decide))
  intro b hb
  unfold Lib.itoa at hb
  split at hb
  · rcases List.mem_cons.1 hb with rfl | hb
    · decide
    · exact hd _ b hb
  · exact hd _ b hb
theorem nDigits_le : ∀ (k u : Nat), u < 10 ^ (k + 1) → Lib.nDigits u ≤ k + 1
  | 0, u, h => by rw [Lib.nDigits_small (by simpa using h)]; exact Nat.le_refl _
  | k + 1, u, h => by
    by_cases hu : u < 10
    · rw [Lib.nDigits_small hu]; omega
    · rw [Lib.nDigits_big hu]
      have := nDigits_le k (u / 10) (by rw [Nat.pow_succ] at h; omega)
      omega
theorem numP_itoa {n : Int} (h0 : -big ≤ n) (h1 : n ≤ big) : numP (Lib.itoa n) = some n := by
  have hl : (Lib.trimPrefix (Lib.itoa n) [45]).length ≤ 15 := by
    unfold big at h0 h1
    have hd : ∀ u : Nat, u ≤ 1099511627776 → (Lib.decDigits u).length ≤ 15 := fun u hu => by
      rw [Lib.decDigits_length]
      exact nDigits_le 14 u (Nat.lt_of_le_of_lt hu (by decide))
    unfold Lib.itoa
    by_cases h : n < 0
    · rw [if_pos h]
      have e : Lib.trimPrefix (45 :: Lib.decDigits n.natAbs) [45] = Lib.decDigits n.natAbs := by
        unfold Lib.trimPrefix
        rw [if_pos (by unfold Lib.hasPrefix; simp)]
        rfl
      rw [e]
      exact hd _ (by omega)
    · rw [if_neg h]
      refine Nat.le_trans ?_ (hd n.toNat (by omega))
      unfold Lib.trimPrefix
      split
      · rw [List.length_drop]; omega
      · exact Nat.le_refl _
  unfold numP
  rw [if_neg (by omega), atoi_itoa]
  simp only [if_true]
theorem numP_some {s : Str} {n : Int} (h : numP s = some n) : Lib.itoa n = s := by
  unfold numP at h
  split at h
  · cases h
  · split at h
    · split at h
      · cases h; assumption
      · cases h
    · cases h
/-! A byte in a text. -/
theorem byte_miss : ∀ {s : Str} {c : UInt8}, c ∉ s → Lib.indexByte s c = -1
  | [], _, _ => rfl
  | b :: s, c, h => by
    have h1 : (b == c) = false := beq_eq_false_iff_ne.2 fun e => h (by rw [e]; exact List.mem_cons_self ..)
    have h2 := byte_miss (s := s) (c := c) fun hm => h (List.mem_cons_of_mem _ hm)
    rw [Lib.indexByte, h1, h2]
    rfl
theorem byte_hit : ∀ {p r : Str} {c : UInt8}, c ∉ p → Lib.indexByte (p ++ c :: r) c = p.length
  | [], r, c, _ => by rw [List.nil_append, Lib.indexByte]; simp
  | b :: p, r, c, h => by
    have h1 : (b == c) = false := beq_eq_false_iff_ne.2 fun e => h (by rw [e]; exact List.mem_cons_self ..)
    have h2 := byte_hit (p := p) (r := r) (c := c) fun hm => h (List.mem_cons_of_mem _ hm)
    rw [List.cons_append, Lib.indexByte, h1, h2]
    have : (((p.length : Nat) : Int) == -1) = false := beq_eq_false_iff_ne.2 (by omega)
    simp only [this, Bool.false_eq_true, if_false, List.length_cons]
    omega
theorem byte_at : ∀ {s : Str} {c : UInt8}, Lib.indexByte s c ≠ -1 → s = s.take (Lib.indexByte s c).toNat ++ c :: s.drop ((Lib.indexByte s c).toNat + 1)
  | [], _, h => (h rfl).elim
  | b :: s, c, h => by
    by_cases hb : b = c
    · subst hb
      have e : Lib.indexByte (b :: s) b = 0 := by rw [Lib.indexByte]; simp
      rw [e]; rfl
    · have h1 : (b == c) = false := beq_eq_false_iff_ne.2 hb
      have h2 := Lib.indexByte_ge s c
      rw [Lib.indexByte, h1] at h ⊢
      simp only [Bool.false_eq_true, if_false] at h ⊢
      by_cases h3 : Lib.indexByte s c = -1
      · rw [h3] at h; exact (h rfl).elim
      · have ih := byte_at h3
        have h4 : (Lib.indexByte s c == -1) = false := beq_eq_false_iff_ne.2 h3
        rw [h4]
        simp only [Bool.false_eq_true, if_false]
        rw [show (Lib.indexByte s c + 1).toNat = (Lib.indexByte s c).toNat + 1 by omega, List.take_succ_cons, List.drop_succ_cons, List.cons_append, ← ih]
/-! What a line is cut into. -/
theorem split_one {k : Nat} {p : Str} (h : (32 : UInt8) ∉ p) : Lib.splitK [32] 0 k p = [p] := by
  cases k with
  | zero => rfl
  | succ k => rw [Lib.splitK, Lib.index_one, byte_miss h]; rfl
theorem split_app {k : Nat} {p r : Str} (h : (32 : UInt8) ∉ p) : Lib.splitK [32] 0 (k + 1) (p ++ 32 :: r) = p :: Lib.splitK [32] 0 k r := by
  rw [Lib.splitK, Lib.index_one, byte_hit h]
  have : (((p.length : Nat) : Int) == -1) = false := beq_eq_false_iff_ne.2 (by omega)
  rw [this]
  simp only [Bool.false_eq_true, if_false, Int.toNat_natCast, Nat.add_zero, List.length_cons, List.length_nil, Nat.zero_add]
  rw [List.take_left' rfl, List.drop_append, List.drop_eq_nil_of_le (by omega)]
  simp
theorem split_join : ∀ (qs : List Str) (p : Str) (k : Nat), qs.length ≤ k → (32 : UInt8) ∉ p → (∀ q ∈ qs, (32 : UInt8) ∉ q) → Lib.splitK [32] 0 k (p ++ qs.flatMap fun q => 32 :: q) = p :: qs
  | [], p, k, _, hp, _ => by rw [List.flatMap_nil, List.append_nil]; exact split_one hp
  | q :: qs, p, k, hk, hp, hq => by
    simp only [List.length_cons] at hk
    obtain ⟨k, rfl⟩ : ∃ j, k = j + 1 := ⟨k - 1, by omega⟩
    rw [List.flatMap_cons, List.cons_append, split_app hp, split_join qs q k (by omega) (hq q (List.mem_cons_self ..)) fun x hx => hq x (List.mem_cons_of_mem _ hx)]
theorem join_split : ∀ (k : Nat) (s : Str), ∃ p ps, Lib.splitK [32] 0 k s = p :: ps ∧ s = p ++ ps.flatMap fun q => 32 :: q
  | 0, s => ⟨s, [], rfl, by simp⟩
  | k + 1, s => by
    rw [Lib.splitK, Lib.index_one]
    by_cases h : Lib.indexByte s 32 = -1
    · rw [h]
      exact ⟨s, [], rfl, by simp⟩
    · have h4 : (Lib.indexByte s 32 == -1) = false := beq_eq_false_iff_ne.2 h
      rw [h4]
      simp only [Bool.false_eq_true, if_false, Nat.add_zero, List.length_cons, List.length_nil, Nat.zero_add]
      obtain ⟨p, ps, h1, h2⟩ := join_split k (s.drop ((Lib.indexByte s 32).toNat + 1))
      refine ⟨_, _, rfl, ?_⟩
      rw [h1, List.flatMap_cons, List.cons_append, ← h2]
      exact byte_at h
/-! Lines of ops. -/
theorem do_cases {x : OpP} (h : isDo x) : ∃ m : Nat, x.1 = (m : Int) ∧ 1 ≤ m ∧ m ≤ 15 := by
  obtain ⟨h1, h2⟩ := h
  exact ⟨x.1.toNat, by omega, by omega, by omega⟩
theorem named_word : ∀ m : Fin 16, 1 ≤ m.val → namedP (wordN m.val) = m.val := by decide +kernel
theorem word_mem : ∀ m : Fin 16, ∀ b ∈ wordN m.val, b ≠ 32 ∧ b ≠ 10 := by decide +kernel
theorem word_len : ∀ m : Fin 16, (wordN m.val).length ≤ 6 := by decide +kernel
theorem hasN_nodup : ∀ m : Fin 16, (hasN m.val).Nodup := by decide +kernel
theorem namedG_word (s : Str) : ∀ n k, namedG s n k ≠ 0 → wordN (namedG s n k) = s
  | 0, _, h => (h rfl).elim
  | n + 1, k, h => by
    unfold namedG at h ⊢
    split
    · assumption
    · rename_i hk
      rw [if_neg hk] at h
      exact namedG_word s n (k + 1) h
theorem fld_set {x : OpP} {f g : Nat} (hf : f < 4) (hg : g < 4) (v : Int) : fld (setF x f v) g = if g = f then v else fld x g := by
  have h1 : f = 0 ∨ f = 1 ∨ f = 2 ∨ f = 3 := by omega
  have h2 : g = 0 ∨ g = 1 ∨ g = 2 ∨ g = 3 := by omega
  rcases h1 with rfl | rfl | rfl | rfl <;> rcases h2 with rfl | rfl | rfl | rfl <;> rfl
theorem set_do (x : OpP) (f : Nat) (v : Int) : (setF x f v).1 = x.1 := by
  unfold setF; split <;> rfl
theorem op_ext {x y : OpP} (h0 : x.1 = y.1) (h : ∀ f, f < 4 → fld x f = fld y f) : x = y := by
  obtain ⟨d, a, b, c, n⟩ := x
  obtain ⟨d2, a2, b2, c2, n2⟩ := y
  have e0 := h 0 (by omega)
  have e1 := h 1 (by omega)
  have e2 := h 2 (by omega)
  have e3 := h 3 (by omega)
  simp only [fld] at e0 e1 e2 e3 h0
  subst e0 e1 e2 e3 h0
  rfl
theorem parseF_is (x : OpP) : ∀ (fs : List Nat) (y : OpP), (∀ f ∈ fs, f < 4 ∧ numP (Lib.itoa (fld x f)) = some (fld x f)) →
    ∃ z, parseF fs (fs.map fun f => Lib.itoa (fld x f)) y = some z ∧ z.1 = y.1 ∧ ∀ f, f < 4 → fld z f = if f ∈ fs then fld x f else fld y f
  | [], y, _ => ⟨y, rfl, rfl, fun f _ => by simp⟩
  | f :: fs, y, h => by
    have h1 := h f (List.mem_cons_self ..)
    obtain ⟨z, e1, e2, e3⟩ := parseF_is x fs (setF y f (fld x f)) fun g hg => h g (List.mem_cons_of_mem _ hg)
    refine ⟨z, ?_, e2.trans (set_do ..), fun g hg => ?_⟩
    · rw [List.map_cons, parseF, h1.2, Option.bind_some, e1]
    · rw [e3 g hg, fld_set h1.1 hg]
      by_cases hm : g ∈ fs
      · rw [if_pos hm, if_pos (List.mem_cons_of_mem _ hm)]
      · rw [if_neg hm]
        by_cases hf : g = f
        · subst hf; rw [if_pos rfl, if_pos (List.mem_cons_self ..)]
        · rw [if_neg hf, if_neg (by simp [hf, hm])]
theorem parseF_back : ∀ (fs : List Nat) (ps : List Str) (y z : OpP), (∀ f ∈ fs, f < 4) → fs.Nodup → ps.length = fs.length → parseF fs ps y = some z →
    z.1 = y.1 ∧ (∀ f, f < 4 → f ∉ fs → fld z f = fld y f) ∧ ps = fs.map fun f => Lib.itoa (fld z f)
  | [], [], y, z, _, _, _, h => by cases h; exact ⟨rfl, fun _ _ _ => rfl, rfl⟩
  | [], p :: ps, _, _, _, _, hl, _ => by simp at hl
  | f :: fs, [], _, _, _, _, hl, _ => by simp at hl
  | f :: fs, p :: ps, y, z, h4, hn, hl, h => by
    have hn' := List.nodup_cons.1 hn
    rw [parseF] at h
    obtain ⟨v, hv, h⟩ := Option.bind_eq_some_iff.1 h
    obtain ⟨e1, e2, e3⟩ := parseF_back fs ps _ z (fun g hg => h4 g (List.mem_cons_of_mem _ hg)) hn'.2 (by simpa using hl) h
    have hf := h4 f (List.mem_cons_self ..)
    refine ⟨e1.trans (set_do ..), fun g hg hm => ?_, ?_⟩
    · rw [e2 g hg (fun h => hm (List.mem_cons_of_mem _ h)), fld_set hf hg, if_neg (fun e => hm (by rw [e]; exact List.mem_cons_self ..))]
    · rw [List.map_cons, e2 f hf hn'.1, fld_set hf hf, if_pos rfl, numP_some hv, ← e3]
theorem formed_zero {x : OpP} (h : formedP x = true) {f : Nat} (hf : f < 4) (hn : f ∉ hasN x.1.toNat) : fld x f = 0 := by
  unfold formedP at h
  simp only [Bool.and_eq_true] at h
  obtain ⟨_, n0, n1, n2, n3⟩ := h
  have hx : noX x f = true := by
    have : f = 0 ∨ f = 1 ∨ f = 2 ∨ f = 3 := by omega
    rcases this with rfl | rfl | rfl | rfl <;> assumption
  unfold noX at hx
  rw [List.contains_eq_mem, decide_eq_false hn, Bool.false_or] at hx
  exact of_decide_eq_true hx
theorem ranged_in {x : OpP} (h : rangedP x = true) {f : Nat} (hf : f ∈ hasN x.1.toNat) : -big ≤ fld x f ∧ fld x f ≤ big := by
  have h1 := List.all_eq_true.1 h f hf
  unfold inX at h1
  have h2 := of_decide_eq_true h1
  have h3 : -big ≤ loP x.1 f ∧ hiP x.1 f ≤ big := by
    unfold loP hiP big
    constructor
    · split <;> omega
    · repeat' split
      all_goals omega
  omega
theorem body_parts {x : OpP} (hf : formedP x = true) : partsP (bodyP x) = wordN x.1.toNat :: (hasN x.1.toNat).map fun f => Lib.itoa (fld x f) := by
  obtain ⟨m, hm, h1, h2⟩ := do_cases (formed_is hf)
  have e : bodyP x = wordN x.1.toNat ++ ((hasN x.1.toNat).map fun f => Lib.itoa (fld x f)).flatMap fun q => 32 :: q := by
    unfold bodyP
    rw [List.flatMap_map]
  unfold partsP
  have hlen : ((hasN x.1.toNat).map fun f => Lib.itoa (fld x f)).length ≤ min 6 ((bodyP x).length + 1) - 1 := by
    have a1 := hasN_len x.1.toNat
    have a2 : (hasN x.1.toNat).length ≤ (bodyP x).length := by
      unfold bodyP
      rw [List.length_append, List.length_flatMap]
      have : ∀ l : List Nat, l.length ≤ (l.map fun f => (32 :: Lib.itoa (fld x f)).length).sum := by
        intro l
        induction l with
        | nil => exact Nat.le_refl _
        | cons a l ih => simp only [List.map_cons, List.sum_cons, List.length_cons] at *; omega
      have := this (hasN x.1.toNat)
      omega
    rw [List.length_map]
    omega
  rw [e] at hlen ⊢
  refine split_join _ _ _ hlen (fun h => ?_) (fun q hq h => ?_)
  · rw [hm, Int.toNat_natCast] at h
    exact (word_mem ⟨m, by omega⟩ 32 h).1 rfl
  · obtain ⟨f, _, rfl⟩ := List.mem_map.1 hq
    exact (itoa_mem _ 32 h).1 rfl
theorem suffix_line (b : Str) : Lib.hasSuffix (b ++ [10]) [10] = true ∧ Lib.trimSuffix (b ++ [10]) [10] = b := by
  have h : Lib.hasSuffix (b ++ [10]) [10] = true := by
    unfold Lib.hasSuffix
    exact List.isSuffixOf_iff_suffix.2 ⟨b, rfl⟩
  refine ⟨h, ?_⟩
  unfold Lib.trimSuffix
  rw [if_pos h]
  simp
theorem line_suffix {s : Str} (h : Lib.hasSuffix s [10] = true) : s = Lib.trimSuffix s [10] ++ [10] := by
  obtain ⟨b, rfl⟩ := List.isSuffixOf_iff_suffix.1 h
  rw [(suffix_line b).2]
/-- An op's line is read as the op. -/
theorem parse_line {x : OpP} (hf : formedP x = true) (hr : rangedP x = true) : parseP (lineP x) = some x := by
  obtain ⟨m, hm, h1, h2⟩ := do_cases (formed_is hf)
  have hmN : x.1.toNat = m := by omega
  unfold parseP lineP
  rw [(suffix_line _).1, (suffix_line _).2, if_pos rfl, body_parts hf]
  unfold partsOp
  simp only
  rw [hmN, named_word ⟨m, by omega⟩ h1, if_neg (by show ¬ m = 0; omega), if_pos (by simp)]
  obtain ⟨z, e1, e2, e3⟩ := parseF_is x (hasN m) ((m : Int), 0, 0, 0, 0) fun f h => ⟨hasN_lt _ f h, by
    have := ranged_in hr (hmN ▸ h)
    exact numP_itoa this.1 this.2⟩
  show parseF (hasN m) _ _ = _
  rw [e1]
  congr 1
  refine op_ext (e2.trans hm.symm) fun f hf4 => ?_
  rw [e3 f hf4]
  split
  · rfl
  · rename_i hn
    rw [formed_zero hf hf4 (by rw [hmN]; exact hn)]
    have : f = 0 ∨ f = 1 ∨ f = 2 ∨ f = 3 := by omega
    rcases this with rfl | rfl | rfl | rfl <;> rfl
/-- A line that is read as an op is that op's line. -/
theorem line_parse {s : Str} {x : OpP} (h : parseP s = some x) : lineP x = s := by
  unfold parseP at h
  split at h
  · rename_i hs
    obtain ⟨p, ps, h1, h2⟩ := join_split (min 6 ((Lib.trimSuffix s [10]).length + 1) - 1) (Lib.trimSuffix s [10])
    have h3 : partsP (Lib.trimSuffix s [10]) = p :: ps := h1
    rw [h3] at h
    unfold partsOp at h
    simp only at h
    split at h
    · cases h
    · rename_i hn
      split at h
      · rename_i hl
        have hlt := namedP_lt p
        obtain ⟨e1, _, e3⟩ := parseF_back _ _ _ _ (fun f hf => hasN_lt _ f hf) (hasN_nodup ⟨namedP p, hlt⟩) hl h
        have hw : wordN (namedP p) = p := namedG_word p 15 1 hn
        have hd : x.1.toNat = namedP p := by rw [e1]; exact Int.toNat_natCast _
        unfold lineP bodyP
        rw [hd, hw]
        rw [line_suffix hs, h2]
        congr 2
        conv => rhs; rw [e3]
        rw [List.flatMap_map]
      · cases h
  · cases h
theorem line_mem {x : OpP} (hd : isDo x) : (10 : UInt8) ∉ bodyP x := by
  obtain ⟨m, hm, h1, h2⟩ := do_cases hd
  intro h
  unfold bodyP at h
  rw [show x.1.toNat = m by omega] at h
  rcases List.mem_append.1 h with h | h
  · exact (word_mem ⟨m, by omega⟩ 10 h).2 rfl
  · obtain ⟨f, _, h⟩ := List.mem_flatMap.1 h
    rcases List.mem_cons.1 h with h | h
    · exact absurd h (by decide)
    · exact (itoa_mem _ 10 h).2 rfl
theorem line_end {x : OpP} (hd : isDo x) (r : Str) : endP (lineP x ++ r) = (lineP x).length := by
  unfold endP lineP
  rw [List.append_assoc, List.singleton_append, byte_hit (line_mem hd), if_neg (by omega), Int.toNat_natCast]
  simp
theorem text_lines : ∀ (l : List OpP) (k : Nat), (∀ x ∈ l, formedP x = true ∧ rangedP x = true) → badG (linesP k (textP l)) = none ∧ opsG (linesP k (textP l)) = l
  | [], k, _ => ⟨rfl, rfl⟩
  | x :: l, k, h => by
    obtain ⟨h1, h2⟩ := h x (List.mem_cons_self ..)
    have ih := text_lines l (k + 1) fun y hy => h y (List.mem_cons_of_mem _ hy)
    have e : textP (x :: l) = lineP x ++ textP l := rfl
    have hne : lineP x ++ textP l ≠ [] := by unfold lineP; simp
    have hl : linesP k (textP (x :: l)) = (k, lineP x) :: linesP (k + 1) (textP l) := by
      rw [e, linesP_step k hne, line_end (formed_is h1), List.take_left' rfl, List.drop_left' rfl]
    rw [hl]
    have hp := parse_line h1 h2
    refine ⟨?_, ?_⟩
    · rw [badG]
      simp only [hp, Option.isSome_some, if_true]
      exact ih.1
    · unfold opsG
      rw [List.map_cons]
      simp only [hp, Option.getD_some]
      exact congrArg _ ih.2
/-- The text of a procedure is read as the procedure. -/
theorem res_text {l : List OpP} (h : checkP l = 0) : resP (textP l) = (l, 0, 0) := by
  obtain ⟨_, h1, h2, _⟩ := check_ok h
  obtain ⟨e1, e2⟩ := text_lines l 1 fun x hx => ⟨List.all_eq_true.1 h1 x hx, List.all_eq_true.1 h2 x hx⟩
  unfold resP
  rw [e1, e2]
  simp only [h, if_true]
theorem lines_text : ∀ (n : Nat) (s : Str) (k : Nat), s.length ≤ n → badG (linesP k s) = none → textP (opsG (linesP k s)) = s
  | n, [], k, _, _ => rfl
  | 0, b :: s, k, h, _ => by simp at h
  | n + 1, b :: s, k, h, hb => by
    obtain ⟨t, ht⟩ : ∃ t, b :: s = t := ⟨_, rfl⟩
    have hne : t ≠ [] := by rw [← ht]; simp
    rw [ht] at h hb ⊢
    have he := endP_pos hne
    rw [linesP_step k hne] at hb ⊢
    rw [badG] at hb
    split at hb
    · rename_i hs
      obtain ⟨x, hx⟩ := Option.isSome_iff_exists.1 hs
      have ih := lines_text n (t.drop (endP t)) (k + 1) (by rw [List.length_drop]; omega) hb
      have e : opsG ((k, t.take (endP t)) :: linesP (k + 1) (t.drop (endP t))) = x :: opsG (linesP (k + 1) (t.drop (endP t))) := by
        unfold opsG
        rw [List.map_cons]
        simp only at hx
        simp only [hx, Option.getD_some]
      rw [e]
      show lineP x ++ textP _ = t
      rw [ih, line_parse hx, List.take_append_drop]
    · cases hb
/-- A text that is read as a procedure is that procedure's text. -/
theorem text_res {s : Str} (h : (resP s).2.2 = 0) : textP (resP s).1 = s ∧ checkP (resP s).1 = 0 ∧ (resP s).2.1 = 0 := by
  unfold resP at h ⊢
  cases hb : badG (linesP 1 s) with
  | some n => rw [hb] at h; cases h
  | none =>
    rw [hb] at h
    simp only at h ⊢
    by_cases hc : checkP (opsG (linesP 1 s)) = 0
    · rw [if_pos hc]
      exact ⟨lines_text s.length s 1 (Nat.le_refl _) hb, hc, rfl⟩
    · rw [if_neg hc] at h
      exact (hc h).elim
theorem res_bad {s : Str} (h : (resP s).2.2 ≠ 0) : (resP s).1 = [] := by
  unfold resP at h ⊢
  cases hb : badG (linesP 1 s) with
  | some n => rfl
  | none =>
    rw [hb] at h
    simp only at h ⊢
    by_cases hc : checkP (opsG (linesP 1 s)) = 0
    · rw [if_pos hc] at h; exact (h rfl).elim
    · rw [if_neg hc]
theorem line_len {x : OpP} (hf : formedP x = true) (hr : rangedP x = true) : (lineP x).length ≤ 100 := by
  obtain ⟨m, hm, h1, h2⟩ := do_cases (formed_is hf)
  have hmN : x.1.toNat = m := by omega
  have a1 := word_len ⟨m, by omega⟩
  have a2 := hasN_len m
  have a3 : ∀ l : List Nat, (∀ f ∈ l, (Lib.itoa (fld x f)).length ≤ 21) → (l.map fun f => (32 :: Lib.itoa (fld x f)).length).sum ≤ l.length * 22 := by
    intro l
    induction l with
    | nil => intro _; exact Nat.le_refl _
    | cons a l ih =>
      intro h
      have := ih fun f hf => h f (List.mem_cons_of_mem _ hf)
      have := h a (List.mem_cons_self ..)
      simp only [List.map_cons, List.sum_cons, List.length_cons] at *
      omega
  have a4 := a3 (hasN m) fun f hf => by
    have := ranged_in hr (hmN ▸ hf)
    unfold big at this
    exact Lib.itoa_length_le _ (by omega) (by omega)
  unfold lineP bodyP
  rw [hmN, List.length_append, List.length_append, List.length_flatMap]
  simp only [List.length_cons, List.length_nil] at a1 a4 ⊢
  omega
end Pc
end Go.Proofs.YtgoegdlhbadlfaaDoor
