/- Package proc, plain: two procedures one behind the other, and one within a loop. -/
import Derived.Test.YtgoegdlhbadlfaaDoorPr8
namespace Go.Proofs.YtgoegdlhbadlfaaDoor
namespace Pc
theorem pop_all {k : Int} : ∀ {es : List Int}, (∀ e ∈ es, e ≤ k) → pop k es = []
  | [], _ => rfl
  | e :: es, h => by
    rw [pop, if_pos (h e (List.mem_cons_self ..))]
    exact pop_all fun x hx => h x (List.mem_cons_of_mem _ hx)
theorem nest_head {n : Int} {es : List Int} (h : ∀ e ∈ es, e ≤ n) : es.headD n ≤ n := by
  cases es with
  | nil => exact Int.le_refl _
  | cons e es => exact h e (List.mem_cons_self ..)
/-- Ops ahead, all of whose ends are there, leave what follows as it is. -/
theorem nest_app (b : List OpP) (n m : Int) (hm : m ≤ n) : ∀ (a : List OpP) (i : Int) (es : List Int), i + a.length = m → (∀ e ∈ es, e ≤ m) → nestG m a i es = true →
    ∃ es' : List Int, (∀ e ∈ es', e ≤ m) ∧ nestG n (a ++ b) i es = nestG n b m es'
  | [], i, es, hi, he, _ => ⟨es, he, by simp only [List.length_nil] at hi; rw [List.nil_append, show i = m by omega]⟩
  | x :: a, i, es, hi, he, h => by
    simp only [List.length_cons] at hi
    rw [nestG] at h
    rw [List.cons_append, nestG]
    have h1 : ∀ e ∈ pop i es, e ≤ m := fun e h => he e (pop_mem i es e h)
    have h2 := nest_head h1
    by_cases hd : 8 < (pop i es).length
    · rw [if_pos hd] at h; cases h
    · rw [if_neg hd] at h ⊢
      by_cases hx : holdsP x = true
      · rw [if_pos hx] at h ⊢
        by_cases hl : (pop i es).headD m < i + 1 + x.2.2.2.2
        · rw [if_pos hl] at h; cases h
        · rw [if_neg hl] at h
          have hl2 : ¬ (pop i es).headD n < i + 1 + x.2.2.2.2 := by
            cases hp : pop i es with
            | nil => rw [hp] at hl; simp only [List.headD_nil] at hl ⊢; omega
            | cons e l => rw [hp] at hl; simpa using hl
          rw [if_neg hl2]
          exact nest_app b n m hm a (i + 1) _ (by omega) (fun e he => by
            rcases List.mem_cons.1 he with rfl | he
            · omega
            · exact h1 e he) h
      · rw [if_neg hx] at h ⊢
        exact nest_app b n m hm a (i + 1) _ (by omega) h1 h
theorem pop_shift (k i : Int) : ∀ es : List Int, pop (i + k) (es.map (· + k)) = (pop i es).map (· + k)
  | [] => rfl
  | e :: es => by
    rw [List.map_cons, pop, pop]
    by_cases h : e ≤ i
    · rw [if_pos h, if_pos (show e + k ≤ i + k by omega)]; exact pop_shift k i es
    · rw [if_neg h, if_neg (show ¬ e + k ≤ i + k by omega)]; rfl
theorem nest_shift (k n : Int) : ∀ (b : List OpP) (i : Int) (es : List Int), nestG (n + k) b (i + k) (es.map (· + k)) = nestG n b i es
  | [], _, _ => rfl
  | x :: b, i, es => by
    rw [nestG, nestG]
    simp only [pop_shift, List.length_map]
    have e1 : ((pop i es).map (· + k)).headD (n + k) = (pop i es).headD n + k := by cases pop i es <;> rfl
    have e2 : (i + k + 1 + x.2.2.2.2) = (i + 1 + x.2.2.2.2) + k := by omega
    have e3 : i + k + 1 = (i + 1) + k := by omega
    have e4 : ((pop i es).headD n + k < (i + 1 + x.2.2.2.2) + k) = ((pop i es).headD n < i + 1 + x.2.2.2.2) := propext (by omega)
    have i1 := nest_shift k n b (i + 1) (pop i es)
    have i2 := nest_shift k n b (i + 1) ((i + 1 + x.2.2.2.2) :: pop i es)
    rw [List.map_cons] at i2
    rw [e1, e2, e3]
    simp only [e4, i1, i2]
theorem nested_app {a b : List OpP} (ha : nestedP a = true) (hb : nestedP b = true) : nestedP (a ++ b) = true := by
  unfold nestedP at *
  obtain ⟨es, h1, h2⟩ := nest_app b (a ++ b).length a.length (by simp; omega) a 0 [] (by simp) (fun e he => by cases he) ha
  rw [h2]
  have h3 : nestG ((a ++ b).length : Nat) b a.length es = nestG ((a ++ b).length : Nat) b a.length [] := by
    cases b with
    | nil => rfl
    | cons x b => rw [nestG, nestG, pop_all h1]; rfl
  rw [h3]
  have := nest_shift a.length b.length b 0 []
  rw [List.map_nil, Int.zero_add, hb] at this
  rw [List.length_append, Int.natCast_add, Int.add_comm]
  exact this
theorem check_intro {l : List OpP} (h1 : l.length ≤ 64) (h2 : l.all formedP = true) (h3 : l.all rangedP = true) : checkP l = if nestedP l = true then 0 else 11 := by
  unfold checkP
  rw [if_neg (by omega), if_pos h2, if_pos h3]
theorem check_app {a b : List OpP} (ha : checkP a = 0) (hb : checkP b = 0) (hl : (a ++ b).length ≤ 64) : checkP (a ++ b) = 0 := by
  obtain ⟨a1, a2, a3, a4⟩ := check_ok ha
  obtain ⟨b1, b2, b3, b4⟩ := check_ok hb
  rw [check_intro hl (by rw [List.all_append, a2, b2]; rfl) (by rw [List.all_append, a3, b3]; rfl), if_pos (nested_app a4 b4)]
theorem check_long {l : List OpP} (h : 64 < l.length) : checkP l = 23 := by unfold checkP; rw [if_pos h]
theorem steps_app (b : List OpP) : ∀ (k : Nat) (a : List OpP), a.length ≤ k → Lam a → stepsL (a ++ b) = stepsL a + stepsL b
  | _, [], _, _ => by rw [List.nil_append, show stepsL [] = 0 from rfl, Int.zero_add]
  | 0, x :: a, h, _ => by simp at h
  | k + 1, x :: a, h, hL => by
    simp only [List.length_cons] at h
    have hd := fun n => hL.drop (n + 1)
    simp only [List.drop_succ_cons] at hd
    rw [List.cons_append, stepsL_cons, stepsL_cons]
    by_cases h14 : x.1 = 14
    · rw [if_pos h14, if_pos h14]
      have h1 := hL.hold 0 x rfl (loop_holds h14)
      simp only [List.length_cons] at h1
      have h2 : x.2.2.2.2.toNat ≤ a.length := by omega
      rw [List.take_append_of_le_length h2, List.drop_append_of_le_length h2, steps_app b k _ (by rw [List.length_drop]; omega) (hd _)]
      omega
    · rw [if_neg h14, if_neg h14, steps_app b k a (by omega) (by have := hd 0; rwa [List.drop_zero] at this)]
      omega
theorem stepsP_app {a b : List OpP} (ha : checkP a = 0) (hb : checkP b = 0) : stepsP (a ++ b) = min 10001 (stepsP a + stepsP b) := by
  have h1 := stepsL_nonneg (check_lam ha).2
  have h2 := stepsL_nonneg (check_lam hb).2
  rw [stepsP_eq, stepsP_eq, stepsP_eq, steps_app b a.length a (Nat.le_refl _) (check_lam ha).1]
  omega
/-- A loop that holds ops. -/
def loopOp (times : Int) (n : Nat) : OpP := (14, 0, 0, times, n)
theorem loop_formed (t : Int) (n : Nat) : formedP (loopOp t n) = true := by
  unfold formedP isDo noX loopOp
  simp [hasN, fld]
theorem loop_ranged {t : Int} {n : Nat} (h0 : 0 ≤ t) (h1 : t ≤ 16) (hn : n ≤ 64) : rangedP (loopOp t n) = true := by
  unfold rangedP loopOp
  simp [hasN, fld, inX, loP, hiP]
  omega
theorem check_loop {a : List OpP} (ha : checkP a = 0) {t : Int} (h0 : 0 ≤ t) (h1 : t ≤ 16) (hn : a.length ≤ 40) : checkP (loopOp t a.length :: a) = 0 ∨ checkP (loopOp t a.length :: a) = 11 := by
  obtain ⟨a1, a2, a3, a4⟩ := check_ok ha
  rw [check_intro (by simp only [List.length_cons]; omega) (by rw [List.all_cons, loop_formed, a2]; rfl) (by rw [List.all_cons, loop_ranged h0 h1 (by omega), a3]; rfl)]
  split
  · exact .inl rfl
  · exact .inr rfl
theorem steps_loop (a : List OpP) (t : Int) : stepsP (loopOp t a.length :: a) = min 10001 (1 + t * (stepsP a + 1)) := by
  rw [stepsP_eq, stepsL_cons, if_pos (show (loopOp t a.length).1 = 14 from rfl)]
  have e : (loopOp t a.length).2.2.2.2.toNat = a.length := Int.toNat_natCast _
  rw [e, List.take_length, List.drop_length, show stepsL [] = 0 from rfl, Int.add_zero, stepsP_eq, show (loopOp t a.length).2.2.2.1 = t from rfl, Int.add_comm 1 (min _ _)]
  omega
end Pc
end Go.Proofs.YtgoegdlhbadlfaaDoor
