/- Ranges over functions, by blocks: what an iterator owns, what it reads, and what a round keeps. Over any program. The laws of the kit that serve: the statement's ('wpIn_rangeFunc'), a round's ('roundIn_of_wpIn'), the record's. -/
import Derived.Test.YtgoegdlhbadlfaaDoorMemS
import Derived.RangeFuncNested
import Derived.RangeFuncLeaves
import Derived.RangeFuncRecord
import Derived.StillTailTactics
import Derived.OrdersIn
import Derived.TacticsInMore
import Derived.OwnWalkIn
namespace Go.Proofs.YtgoegdlhbadlfaaDoor
open Go.RowKit

/-! ### A drawn region: reads, and then a chain; in a round too -/
section
variable {P : Program} {ops : Array Oper} {md : Region.Mode} {w : World} {F : Fence} {n : Nat}
/-- No operation is a 'defer'. -/
def noDefer (l : List Oper) : Bool := l.all fun o => match o.op with | .defer _ => false | _ => true
theorem noDefer_spec {l : List Oper} (h : noDefer l = true) {o : Oper} (ho : o ∈ l) : ∀ c, o.op ≠ .defer c := by
  intro c e
  have := List.all_eq_true.1 h o ho
  rw [e] at this
  cases this
theorem sem_round {o : Oper} (hd : ∀ c, o.op ≠ .defer c) (r : Option Nat) (ρ : Operand → Value) : Oper.semAt r ρ o = execOp ρ o := by
  cases r with
  | some l => exact Oper.semAt_some l ρ o hd
  | none => rfl
theorem opIn_of_still {o : Oper} {a : Act} {K : Act → Prop} {K' : Act → World → Prop} {Q' : Exit → Act → World → Prop} (hF : ∀ f, F.fn f) (hD : F.depth = none) (hd : ∀ c, o.op ≠ .defer c) (hc : ∀ f args W R, Calls P f args W R → CallsIn F (n - 1) P f args W R)
    (h : ∀ a, K a → K' a w) (hh : o.still P a w K) : o.wpIn F n P a w K' Q' := by
  refine ⟨fun f _ => hF f, ?_⟩
  rw [sem_round hd]
  unfold Oper.still at hh
  generalize (execOp a.eval o).run P w = r at *
  cases r with
  | ok x w' =>
    cases x <;> simp only [Oper.stillUpon] at hh <;> simp only [Oper.uponIn]
    case value u => obtain ⟨rfl, h2⟩ := hh; exact h _ h2
    case skip => obtain ⟨rfl, h2⟩ := hh; exact h _ h2
    case enter f args =>
      obtain ⟨rfl, v, hcl, hK⟩ := hh
      refine ⟨(fun hs => by rw [hD] at hs; cases hs), hc _ _ _ _ (hcl.mono fun e w'' he => ?_)⟩
      obtain ⟨rfl, rfl⟩ := he
      exact h _ hK
  | halt x w' => cases x <;> simp only [Oper.stillUpon] at hh
theorem opsIn_of_stOp {l : List Oper} {i : Nat} {a : Act} {K : Act → Prop} {K' : Act → World → Prop} {Q' : Exit → Act → World → Prop} (hF : ∀ f, F.fn f) (hD : F.depth = none) (hnd : noDefer l = true) (hc : ∀ f args W R, Calls P f args W R → CallsIn F (n - 1) P f args W R)
    (h : ∀ a, K a → K' a w) (hh : stOp P l.toArray w i K a) : wpOpIn F n P l.toArray Q' i K' a w := by
  unfold stOp at hh
  unfold wpOpIn
  split
  · rename_i ho; simp only [ho] at hh; exact h _ hh
  · rename_i o ho
    simp only [ho] at hh
    have hm : o ∈ l := by
      have := Array.mem_of_getElem? ho
      simpa using this
    split
    · rename_i hw; simp only [hw, if_true] at hh; exact opIn_of_still hF hD (noDefer_spec hnd hm) hc h hh
    · rename_i hw; simp only [hw] at hh; exact ⟨fun f _ => hF f, h _ hh⟩
theorem anyIn_of_head {l : List Oper} {N g : Nat} {L : Array Bool → Act → Prop} {Q' : Exit → Act → World → Prop} (hF : ∀ f, F.fn f) (hD : F.depth = none) (hnd : noDefer l = true) (hc : ∀ f args W R, Calls P f args W R → CallsIn F (n - 1) P f args W R)
    (hL : ∀ listed a, L listed a → wpAnyIn F n P md l.toArray Q' g listed a w) :
    ∀ (f : Nat) (listed : Array Bool) (a : Act), wpAnyL P md l.toArray w N L f listed a → wpAnyIn F n P md l.toArray Q' (f + g) listed a w
  | 0, listed, a, h => by rw [Nat.zero_add]; exact hL _ _ h
  | f + 1, listed, a, h => by
    rw [show f + 1 + g = (f + g) + 1 by omega]
    exact ⟨fun h0 => absurd h0 h.1, fun i hi => opsIn_of_stOp hF hD hnd hc (fun a' h' => anyIn_of_head hF hD hnd hc hL f _ a' h') (h.2 i hi).2⟩
theorem anyIn_of_seq {Q' : Exit → Act → World → Prop} : ∀ (l : List Oper) (k : Nat) (listed : Array Bool) (a : Act) (w : World), (∀ j, l[j]? = ops[k + j]?) →
    Region.seqB md ops l.length k listed = true → wpListIn F n P ops Q' l a w → wpAnyIn F n P md ops Q' l.length listed a w
  | [], _, _, _, _, _, hB, h => ⟨by simpa [Region.seqB] using hB, h⟩
  | o :: l, k, listed, a, w, hl, hB, h => by
    have h0 : ops[k]? = some o := by simpa using (hl 0).symm
    simp only [List.length_cons, Region.seqB, Bool.and_eq_true, decide_eq_true_eq] at hB
    refine ⟨fun h1 => (by rw [hB.1] at h1; cases h1), fun i hi => ?_⟩
    rw [hB.1] at hi
    have hik : i = k := by simpa using hi
    subst hik
    have hw : wpOpIn F n P ops Q' i (wpListIn F n P ops Q' l) a w := by unfold wpOpIn; simp only [h0]; exact h
    exact wpOpIn_mono (fun a' w' h' => anyIn_of_seq l (i + 1) _ a' w' (fun j => by have := hl (j + 1); simpa [Nat.add_assoc, Nat.add_comm 1 j] using this) hB.2 h') hw
/-- 'wp_region_still_tail' in a fence that lets all in, and in a round. -/
theorem wpIn_region_still_tail {id : Nat} {Q : Exit → Act → World → Prop} {a : Act} {w : World} {l : List Oper} (N : Nat) (hF : ∀ f, F.fn f) (hD : F.depth = none) (hc : ∀ f args W R, Calls P f args W R → CallsIn F (n - 1) P f args W R)
    (hnd : noDefer l = true) (hm : P.follows .mixedOrders = true) (hB : Region.lexTailB .any l.toArray N = true)
    (h : wpStill P l.toArray { w with drawn := w.drawn + 1 } (fun a' => wpListIn F n P l.toArray Q (l.drop N) a' { w with drawn := w.drawn + 1 }) (l.take N) a) : (Code.region id l.toArray true).wpIn F n P Q a w := by
  simp only [Region.lexTailB, Bool.and_eq_true, decide_eq_true_eq] at hB
  obtain ⟨⟨⟨⟨hsel, hn⟩, hs⟩, hcc⟩, hlex⟩ := hB
  have hn' : N < l.length := by simpa using hn
  have htl : (l.take N).length = N := by simp; omega
  have hdl : (l.drop N).length = l.toArray.size - N := by simp
  have inv0 : HeadInv .any l.toArray N (Array.replicate l.toArray.size false) :=
    ⟨by simp, fun j oj _ hl => (by rw [getD_replicate_false] at hl; cases hl), fun t _ ht => getD_in (by simpa using ht) (getD_replicate_false _ _)⟩
  have H := wpAnyL_lex (md := .any) (g := l.toArray.size - N) hsel hs hcc hn (l.take N) 0 _ a (fun j hj => by
    have hj' : j < N := by rw [htl] at hj; exact hj
    simp [hj']) (by simpa using htl) inv0 (by rw [htl]; exact hlex) h
  refine wpIn_region_any hm ?_
  have := anyIn_of_head (F := F) (n := n) (Q' := Q) (g := l.toArray.size - N) hF hD hnd hc (fun listed a' hL => by
    have := anyIn_of_seq (F := F) (n := n) (md := .any) (Q' := Q) (l.drop N) N listed a' { w with drawn := w.drawn + 1 } (fun j => by simp [List.getElem?_drop]) (by rw [hdl]; exact hL.1) hL.2
    rwa [hdl] at this) _ _ _ H
  rw [htl, show N + (l.toArray.size - N) = l.toArray.size by omega] at this
  exact this
theorem wpStill_pass {Q : Act → Prop} {a : Act} {o : Oper} {rest : List Oper} (h : Region.wanted o (yielded ops a.tmps) = false) (hk : wpStill P ops w Q rest (a.put o.dst undef)) : wpStill P ops w Q (o :: rest) a := by
  unfold wpStill
  rw [h]
  exact hk
/-- An operation that its guard passes over. -/
theorem wpListIn_pass {Q : Exit → Act → World → Prop} {a : Act} {o : Oper} {rest : List Oper} (hF : ∀ f, F.fn f) (hw : Region.wanted o (yielded ops a.tmps) = false) (h : wpListIn F n P ops Q rest (a.put o.dst undef) w) : wpListIn F n P ops Q (o :: rest) a w := by
  simp only [wpListIn, hw]
  exact ⟨fun f _ => hF f, h⟩
theorem enters_any {f : FuncId} {fn : Func} {c : Code} (hf : P.funcs[f]? = some fn) (hname : (fn.name == "runtime.NumGoroutine") = false) (hb : fn.body = some c) (args : Array Value) (w : World) : (callFunc f args).run P w = .ok (.enter f args) w := by
  have h1 : fn.name ≠ "runtime.NumGoroutine" := by simpa using hname
  simp [callFunc, hf, h1, hb, Go.mark]
theorem wide_all (f : FuncId) : Fence.wide.fn f := trivial
theorem calls_wide {m : Nat} {f : FuncId} {args : Array Value} {W : World} {R : Ending → World → Prop} (h : Calls P f args W R) : CallsIn Fence.wide m P f args W R := callsIn_wide.2 h
theorem calls_round {m : Nat} (l : Nat) {f : FuncId} {args : Array Value} {W : World} {R : Ending → World → Prop} (h : Calls P f args W R) : CallsIn (Fence.wide.inRound l) m P f args W R := CallsIn.inRound l (callsIn_wide.2 h)
end

/-! ### What an iterator tells, in blocks -/
section
variable {α : Type} {P : Program}
/-- An invariant stays where only blocks of K turn, and new ones come. -/
def Clos (I : (Nat → Prop) → List α → World → Prop) : Prop :=
  ∀ K K' pre W W', I K pre W → Fr (fun k _ => K k) W W' → (∀ k, K' k → K k ∨ (W.heap.size ≤ k ∧ k < W'.heap.size)) → I K' pre W'
/-- An iterator tells the elements of xs, one by one, to whatever loop: R: blocks that it reads; K: blocks that are its own (K0: at the beginning). It stops where it is told to, if 'stops'. -/
def Tells (stops : Prop) (P : Program) (gf : Nat) (lb : Array Value) (encs : α → Array Value) (xs : List α) (R K0 : Nat → Prop) (W : World) : Prop :=
  ∀ (l : Nat) (J Jx : (Nat → Prop) → List α → World → Prop), (stops ∨ ∀ K pre W, ¬ Jx K pre W) → Clos J → Clos Jx →
    (∀ K pre x post W1, xs = pre ++ x :: post → (∀ k, K0 k → K k) → J K pre W1 → ∀ m, YieldAt Fence.wide m P l (encs x) W1 fun e W' =>
      Fr (fun k _ => ¬ K k ∧ ¬ R k) W1 W' ∧ ((e = .returned (.bool true) ∧ J K (pre ++ [x]) W') ∨ (e = .returned (.bool false) ∧ Jx K (pre ++ [x]) W'))) →
    J K0 [] W →
    Calls P gf (#[.func (.yield l) #[] #[]] ++ lb) W fun e W' => (∃ v, e = .returned v) ∧ ∃ K, (∀ k, K0 k → K k) ∧ (J K xs W' ∨ ∃ pre x post, xs = pre ++ x :: post ∧ Jx K (pre ++ [x]) W')
/-- How a round may be left. -/
def tellPost (I : (Nat → Prop) → List α → World → Prop) (Ix : Code → (Nat → Prop) → List α → World → Prop) (R K : Nat → Prop) (xs : List α) (W : World) : Exit → Act → World → Prop
  | .normal, _, W' => Fr (fun k _ => ¬ K k ∧ ¬ R k) W W' ∧ I K xs W'
  | .ret, _, W' => Fr (fun k _ => ¬ K k ∧ ¬ R k) W W' ∧ Ix .ret K xs W'
  | .exit id, _, W' => Fr (fun k _ => ¬ K k ∧ ¬ R k) W W' ∧ Ix (.exit id) K xs W'
  | .goto t, _, W' => Fr (fun k _ => ¬ K k ∧ ¬ R k) W W' ∧ Ix (.goto t) K xs W'
  | .panic _, _, _ => False
  | .outgrown, _, _ => False
theorem Fr.putObj (W : World) (l : Nat) (o : Obj) : Fr (fun k _ => k = l) W (W.putObj l o) := (Fr.grown (grownBy_putObj' W l o)).mono (fun _b _ h => (Option.some.inj h).symm)
theorem Fr.laid (S : Foot) (W : World) (o : Obj) : Fr S W (W.alloc o) := (Fr.refl S W).alloc o
theorem Fr.obj {S : Foot} {W W' : World} (h : Fr S W W') {k : Nat} {o : Obj} (hk : W.heap[k]? = some o) (hn : ∀ x, ¬ S k x) : W'.heap[k]? = some o := (h.block k (Array.getElem?_eq_some_iff.1 hk).1 hn).trans hk
theorem roundIn_any {m m' : Nat} {l : Nat} {f : FuncId} {tmps : Array Value} {assign body : Code} {w : World} {R : Ending → World → Prop} (h : RoundIn Fence.wide m P l f tmps assign body w R) : RoundIn Fence.wide m' P l f tmps assign body w R :=
  ⟨h.1, fun c cs _ => h.2 c cs (room_wide _)⟩
variable {n : Nat}
/-- THE STATEMENT, over an iterator that tells. -/
theorem wpIn_range_tells {g : Operand} {ps : Array Tmp} {assign body : Code} {Q : Exit → Act → World → Prop} {a : Act} {w : World}
    (h1 : 1 ≤ n) {gf : Nat} {lb : Array Value} (hg : a.eval g = .func (.func gf) #[] lb) (eg : ∀ args w, (callFunc gf args).run P w = .ok (.enter gf args) w)
    {encs : α → Array Value} {stops : Prop} {xs : List α} {R K0 : Nat → Prop} (hseq : ∀ o1 o2, Tells stops P gf lb encs xs R K0 ((w.alloc o1).alloc o2)) (hps : ∀ x, (encs x).size = ps.size)
    (hR : ∀ k, R k → k < w.heap.size) (hK0 : ∀ k, K0 k → k < w.heap.size)
    (I : (Nat → Prop) → List α → World → Prop) (Ix : Code → (Nat → Prop) → List α → World → Prop) (hI : Clos I) (hIx : ∀ c, Clos (Ix c)) (hst : stops ∨ ∀ c K pre W, ¬ Ix c K pre W) (h0 : I K0 [] w) (a₁ : α → Act)
    (hassign : ∀ (l : Nat) (x : α) (W : World) (K : Act → World → Prop), K (a₁ x) W →
      assign.wpIn (Fence.wide.inRound l) (n - 1 - 1) P (Exit.then K (fun _ _ _ => False)) { tmps := (ps.zip (encs x)).foldl (fun t (p, v) => t.setIfInBounds p v) a.tmps, defers := [] } W)
    (hbody : ∀ (l : Nat) (K : Nat → Prop) (pre : List α) (x : α) (post : List α) (W : World), xs = pre ++ x :: post → (∀ k, K0 k → K k) → I K pre W → body.wpIn (Fence.wide.inRound l) (n - 1 - 1) P (tellPost I Ix R K (pre ++ [x]) W) (a₁ x) W)
    (hdone : ∀ (D : Nat) (K : Nat → Prop) (W : World), I K xs W → (∀ k, K0 k → K k) → K D → w.heap.size ≤ D → W.heap[D]? = some (.deferred (some [])) → Q .normal { a with defers := { target := .collected D, args := #[] } :: a.defers } W)
    (hstop : ∀ (D : Nat) (c : Code) (K : Nat → Prop) (pre : List α) (x : α) (post : List α) (W : World), xs = pre ++ x :: post → Ix c K (pre ++ [x]) W → (∀ k, K0 k → K k) → K D → w.heap.size ≤ D → W.heap[D]? = some (.deferred (some [])) →
      c.wpIn Fence.wide n P Q { a with defers := { target := .collected D, args := #[] } :: a.defers } W) :
    (Code.rangeFunc g ps assign body).wpIn Fence.wide n P Q a w := by
  refine wpIn_rangeFunc ?_
  intro fn _
  obtain ⟨s0, hs0⟩ : ∃ s0, w.heap.size = s0 := ⟨_, rfl⟩
  obtain ⟨rec, hrec⟩ : ∃ rec : LoopState → Option Code → Loop, rec = fun st pe => { state := st, pending := pe, fn, tmps := a.tmps, params := ps, assign, body, defers := w.heap.size } := ⟨_, rfl⟩
  obtain ⟨W1, hW1⟩ : ∃ W1, (w.alloc (.deferred (some []))).alloc (.loop (rec .ready none)) = W1 := ⟨_, rfl⟩
  have hL1 : W1.heap[s0 + 1]? = some (.loop (rec .ready none)) := by
    rw [← hW1, ← hs0]; have := World.alloc_heap_new (w.alloc (.deferred (some []))) (.loop (rec .ready none)); rwa [World.size_alloc] at this
  have hK1 : W1.heap[s0]? = some (.deferred (some [])) := by
    rw [← hW1, ← hs0]; exact (Below.heap_alloc _ _ _ (by simp)).trans (World.alloc_heap_new w _)
  have hsz1 : W1.heap.size = s0 + 2 := by rw [← hW1]; simp [hs0]
  have hfr1 : Fr (fun k _ => K0 k) w W1 := by rw [← hW1]; exact ((Fr.refl _ w).alloc _).alloc _
  have hI1 : I (fun k => K0 k ∨ k = s0 ∨ k = s0 + 1) [] W1 := hI _ _ _ _ _ h0 hfr1 (fun k hk => by
    rcases hk with h | rfl | rfl
    · exact .inl h
    · exact .inr (by omega)
    · exact .inr (by omega))
  refine ⟨s0 + 1, [{ target := .collected s0, args := #[] }], W1, { target := .fn (.func gf) lb, args := #[.func (.yield (s0 + 1)) #[] #[]] }, W1, gf,
    #[.func (.yield (s0 + 1)) #[] #[]] ++ lb, W1, ?_, ?_, ?_, ?_, fun _ => h1, callsIn_wide.2 ?_⟩
  · rw [← hW1, hrec, ← hs0]; exact run_enterLoop_outer _ _ _ _ _
  · simp only [resolve, hg]
    simp [go_sem]
  · intro f' _; trivial
  · simp [invoke, go_sem, eg]
  have cl : ∀ {I : (Nat → Prop) → List α → World → Prop}, Clos I → ∀ st pe, Clos (fun K pre W => I (fun k => K k ∨ k = s0 ∨ k = s0 + 1) pre W ∧ W.heap[s0 + 1]? = some (.loop (rec st pe)) ∧ W.heap[s0]? = some (.deferred (some [])) ∧ ¬ K s0 ∧ ¬ K (s0 + 1)) := by
    intro I hI st pe K K' pre W W' ⟨hi, hl, hk, n1, n2⟩ hf hK
    have l0 := (Array.getElem?_eq_some_iff.1 hl).1
    refine ⟨hI _ _ _ _ _ hi (hf.mono (fun k _ h => .inl h)) (fun k h => ?_), hf.obj hl (fun _ => n2), hf.obj hk (fun _ => n1), fun h => ?_, fun h => ?_⟩
    · rcases h with h | h | h
      · exact (hK k h).imp .inl id
      · exact .inl (.inr (.inl h))
      · exact .inl (.inr (.inr h))
    · rcases hK _ h with h | h
      · exact n1 h
      · omega
    · rcases hK _ h with h | h
      · exact n2 h
      · omega
  have hseq1 := hseq (.deferred (some [])) (.loop (rec .ready none))
  rw [hW1] at hseq1
  refine (hseq1 (s0 + 1)
    (fun K pre W => I (fun k => K k ∨ k = s0 ∨ k = s0 + 1) pre W ∧ W.heap[s0 + 1]? = some (.loop (rec .ready none)) ∧ W.heap[s0]? = some (.deferred (some [])) ∧ ¬ K s0 ∧ ¬ K (s0 + 1))
    (fun K pre W => ∃ c, Ix c (fun k => K k ∨ k = s0 ∨ k = s0 + 1) pre W ∧ W.heap[s0 + 1]? = some (.loop (rec .done (some c))) ∧ W.heap[s0]? = some (.deferred (some [])) ∧ ¬ K s0 ∧ ¬ K (s0 + 1))
    (hst.imp id (fun h K pre W ⟨c, hc, _⟩ => h _ _ _ _ hc)) (cl hI _ _) (fun K K' pre W W' ⟨c, hc⟩ hf hK => ⟨c, cl (hIx c) _ _ K K' pre W W' hc hf hK⟩) ?_ ⟨hI1, hL1, hK1, fun h => by have := hK0 _ h; omega, fun h => by have := hK0 _ h; omega⟩).mono ?_
  · -- one round
    rintro K pre x post W hx hK0K ⟨hi, hl, hk, n1, n2⟩ m
    have hlt : s0 + 1 < W.heap.size := (Array.getElem?_eq_some_iff.1 hl).1
    have hy := run_yield (P := P) (args := encs x) hl (by rw [hrec]; exact hps x)
    rw [hrec] at hy
    refine ⟨fn, _, assign, body, hy, roundIn_any (m := n - 1 - 1) (roundIn_of_wpIn trivial (hassign _ x W _ ⟨_, run_beginRound hl (by rw [hrec]), ?_⟩))⟩
    have hl2 : (W.putObj (s0 + 1) (.loop { rec .ready none with state := .busy })).heap[s0 + 1]? = some (.loop { rec .ready none with state := .busy }) := World.putObj_heap_same hlt
    have hk2 : (W.putObj (s0 + 1) (.loop { rec .ready none with state := .busy })).heap[s0]? = some (.deferred (some [])) := (World.putObj_heap_other (by omega)).trans hk
    have hf2 := Fr.putObj W (s0 + 1) (.loop { rec .ready none with state := .busy })
    have hi2 := hI _ (fun k => K k ∨ k = s0 ∨ k = s0 + 1) _ _ _ hi (hf2.mono (fun k _ h => .inr (.inr h))) (fun k h => .inl h)
    refine wpIn_mono (hbody _ _ pre x post _ hx (fun k h => .inl (hK0K k h)) hi2) ?_
    have nr : ∀ k, R k → ¬ k = s0 ∧ ¬ k = s0 + 1 := fun k h => by have := hR k h; omega
    have fin : ∀ {I : (Nat → Prop) → List α → World → Prop}, Clos I → ∀ (jump : Option Code) (W3 : World), Fr (fun k _ => ¬ (K k ∨ k = s0 ∨ k = s0 + 1) ∧ ¬ R k) (W.putObj (s0 + 1) (.loop { rec .ready none with state := .busy })) W3 → I (fun k => K k ∨ k = s0 ∨ k = s0 + 1) (pre ++ [x]) W3 →
        (Instr.endRound (s0 + 1) jump).run P W3 = .ok (.bool jump.isNone) (W3.putObj (s0 + 1) (.loop (rec (if jump.isNone then .ready else .done) jump))) ∧
        Fr (fun k _ => ¬ K k ∧ ¬ R k) W (W3.putObj (s0 + 1) (.loop (rec (if jump.isNone then .ready else .done) jump))) ∧
        I (fun k => K k ∨ k = s0 ∨ k = s0 + 1) (pre ++ [x]) (W3.putObj (s0 + 1) (.loop (rec (if jump.isNone then .ready else .done) jump))) ∧
        (W3.putObj (s0 + 1) (.loop (rec (if jump.isNone then .ready else .done) jump))).heap[s0 + 1]? = some (.loop (rec (if jump.isNone then .ready else .done) jump)) ∧
        (W3.putObj (s0 + 1) (.loop (rec (if jump.isNone then .ready else .done) jump))).heap[s0]? = some (.deferred (some [])) := fun {I} hI jump W3 hf3 hi3 => by
      have hl3 := hf3.obj hl2 (fun _ h => h.1 (.inr (.inr rfl)))
      have hk3 := hf3.obj hk2 (fun _ h => h.1 (.inr (.inl rfl)))
      have hr := run_endRound (P := P) jump hl3
      have hf4 := Fr.putObj W3 (s0 + 1) (.loop (rec (if jump.isNone then .ready else .done) jump))
      have hown : ∀ k (_ : Nat), k = s0 + 1 → (¬ K k ∧ ¬ R k) := fun k _ h => by
        subst h
        exact ⟨n2, fun h => (nr _ h).2 rfl⟩
      refine ⟨?_, ((hf2.mono hown).trans hf3 (fun b _ h => .inl ⟨fun h' => h.1 (.inl h'), h.2⟩)).trans hf4 (fun b o h => .inl (hown b o h)), hI _ _ _ _ _ hi3 (hf4.mono (fun k _ h => .inr (.inr h))) (fun k h => .inl h), World.putObj_heap_same (Array.getElem?_eq_some_iff.1 hl3).1, (World.putObj_heap_other (by omega)).trans hk3⟩
      rw [hr, hrec]
    rintro e a3 W3 hp
    cases e with
    | normal =>
      obtain ⟨hr, q1, q2, q3, q4⟩ := fin hI none W3 hp.1 hp.2
      exact ⟨_, _, hr, q1, .inl ⟨rfl, q2, q3, q4, n1, n2⟩⟩
    | ret =>
      obtain ⟨hr, q1, q2, q3, q4⟩ := fin (hIx _) (some .ret) W3 hp.1 hp.2
      exact ⟨_, _, hr, q1, .inr ⟨rfl, .ret, q2, q3, q4, n1, n2⟩⟩
    | exit id =>
      obtain ⟨hr, q1, q2, q3, q4⟩ := fin (hIx _) (some (.exit id)) W3 hp.1 hp.2
      exact ⟨_, _, hr, q1, .inr ⟨rfl, .exit id, q2, q3, q4, n1, n2⟩⟩
    | goto t =>
      obtain ⟨hr, q1, q2, q3, q4⟩ := fin (hIx _) (some (.goto t)) W3 hp.1 hp.2
      exact ⟨_, _, hr, q1, .inr ⟨rfl, .goto t, q2, q3, q4, n1, n2⟩⟩
    | panic ch => exact hp.elim
    | outgrown => exact hp.elim
  · -- behind the iterator
    rintro e W2 ⟨⟨v, rfl⟩, K, hK, (⟨hi, hl, hk, n1, n2⟩ | ⟨pre, x, post, hx, c, hi, hl, hk, n1, n2⟩)⟩
    · refine ⟨none, _, (by have := run_endLoop (P := P) hl (by rw [hrec]; simp); rw [hrec] at this; exact this), ?_⟩
      have hf4 := Fr.putObj W2 (s0 + 1) (.loop { rec .ready none with state := .exhausted })
      rw [hrec] at hf4
      exact hdone s0 _ _ (hI _ _ _ _ _ hi (hf4.mono (fun k _ h => .inr (.inr h))) (fun k h => .inl h)) (fun k h => .inl (hK k h)) (.inr (.inl rfl)) (by omega) ((World.putObj_heap_other (by omega)).trans hk)
    · refine ⟨some c, _, (by have := run_endLoop (P := P) hl (by rw [hrec]; simp); rw [hrec] at this; exact this), ?_⟩
      have hf4 := Fr.putObj W2 (s0 + 1) (.loop { rec .done (some c) with state := .exhausted })
      rw [hrec] at hf4
      exact hstop s0 c _ pre x post _ hx (hIx c _ _ _ _ _ hi (hf4.mono (fun k _ h => .inr (.inr h))) (fun k h => .inl h)) (fun k h => .inl (hK k h)) (.inr (.inl rfl)) (by omega) ((World.putObj_heap_other (by omega)).trans hk)
end
/-! ### A body that collects -/
theorem fr_own' (w : World) (b : Nat) (v : Value) : Fr (fun k o => k = b ∧ o = 0) w (w.setCell ⟨b, 0, none⟩ v) := (Fr.refl _ w).setCell (.inl ⟨rfl, rfl⟩) v
theorem wpListIn_app_sl {Fe : Fence} {ne : Nat} {P : Program} {w : World} {ops : Array Oper} {rest : List Oper} {o : Oper} {a : Act} {Q : Exit → Act → World → Prop} (hgd : o.guard = none) (s x : Operand) (t : TypeId)
    (ho : o.op = .call { callee := .builtin .append, args := #[s, x], argTypes := #[t, t] })
    (e : TypeId) (i : TypeInfo) (z : Value) (size bytes : Nat) (ht : P.underlying t = some (.slice e)) (hi : P.info? e = some i) (hz : i.zero = some z)
    (hsize : i.size = size) (hby : i.bytes = bytes) (hzs : z.cells.size = size) (hsz : 0 < size)
    (F : Foot) (a1 : Option Addr) (n c : Nat) (xs : List Value) (hs : a.eval s = .slice a1 n c) (hown : Sl w size F a1 n c xs) (hlie : Lies w F)
    (a2 : Option Addr) (m c2 : Nat) (news : List Value) (hx : a.eval x = .slice a2 m c2) (hr : Rd w size a2 m c2 news)
    (N : Nat) (ys : List Value) (hN : n + m = N) (hys : xs ++ news = ys) (h63 : N ≤ maxLen) (hbytes : N * bytes ≤ 140737488355328)
    (h : ∀ a' c' w' F', Sl w' size F' a' N c' ys → Fr F w w' → Grew w F F' → Lies w' F' → wpListIn Fe ne P ops Q rest (a.put o.dst (.slice a' N c')) w') : wpListIn Fe ne P ops Q (o :: rest) a w := by
  subst hN
  subst hys
  refine wpListIn_plain hgd fun K hK => ?_
  obtain ⟨a', c', w', F', hrun, h2, h3, h4, h5⟩ := run_app_sl (P := P) t o.type e i z size bytes ht hi hz hsize hby hzs hsz a1 n c xs hown hlie a2 m c2 news hr h63 hbytes
  unfold Oper.wpIn
  refine ⟨?_, ?_⟩
  · simp [Oper.about, ho, resolve, Target.leads, Sem.run_pure]
  · rw [Oper.semAt_plain Fe _ _ (by rw [ho]; intro c hc'; cases hc')]
    simp [execOp, ho, resolve, invoke, builtin, hs, hx, hrun, Result.andThen]
    exact hK _ _ (h _ _ _ _ h2 h3 h4 h5)
section
variable {α : Type} {size : Nat} {V : List α → List Value} {W0 W1 W2 : World} {Bx : Nat} {K : Nat → Prop} {pre : List α} {x : α}
/-- A box (Bx) holds a slice of what has come; the loop began in W0. -/
def Coll (size : Nat) (V : List α → List Value) (W0 : World) (Bx : Nat) (K : Nat → Prop) (pre : List α) (W : World) : Prop :=
  ∃ (F : Foot) (a : Option Addr) (c : Nat), Sl W size F a pre.length c (V pre) ∧ Lies W F ∧ (∀ k o, F k o → W0.heap.size ≤ k ∧ ¬ K k) ∧ W.cell? ⟨Bx, 0, none⟩ = some (.slice a pre.length c) ∧ W.frozen? ⟨Bx, 0, none⟩ = false ∧
    Fr (fun k _ => k = Bx) W0 W ∧ ∀ k, K k → W0.heap.size ≤ k ∧ k < W.heap.size
theorem Coll.clos (hB : Bx < W0.heap.size) : Clos (Coll size V W0 Bx) := by
  intro K K' pre W W' ⟨F, a, c, h1, h2, h3, h4, h5, h6, h7⟩ hf hK
  have hBK : ¬ K Bx := fun h => by have := (h7 Bx h).1; omega
  have hW := h6.size
  refine ⟨F, a, c, h1.fr hf (fun b o hb hk => (h3 b o hb).2 hk), h2.later hf, fun k o hk => ⟨(h3 k o hk).1, fun hk' => ?_⟩, cell_fr hf h4 hBK, (hf.froz Bx 0 (by omega) hBK).trans h5, h6.trans hf (fun b o hb => .inr (h7 b hb).1), fun k hk => ?_⟩
  · rcases hK k hk' with h | h
    · exact (h3 k o hk).2 h
    · have := h2 k o hk; omega
  · have := hf.size
    rcases hK k hk with h | h
    · have := h7 k h; omega
    · omega
theorem Coll.start (_hB : Bx < W0.heap.size) (hV : V [] = []) (hc : W0.cell? ⟨Bx, 0, none⟩ = some (.slice none 0 0)) (hf : W0.frozen? ⟨Bx, 0, none⟩ = false) : Coll size V W0 Bx (fun _ => False) [] W0 :=
  ⟨noCells, none, 0, by rw [hV]; exact Sl.none_ W0 size, fun _ _ h => h.elim, fun _ _ h => h.elim, hc, hf, Fr.refl _ _, fun _ h => h.elim⟩
theorem Coll.step (hB : Bx < W0.heap.size) {F : Foot} {Wa W2 : World} {a' : Option Addr} {c' : Nat} {F' : Foot} (_h2 : Lies W1 F) (h3 : ∀ k o, F k o → W0.heap.size ≤ k ∧ ¬ K k) (h6 : Fr (fun k _ => k = Bx) W0 W1) (h7 : ∀ k, K k → W0.heap.size ≤ k ∧ k < W1.heap.size)
    (hb : Below W1.heap.size W1 Wa) (k1 : Sl W2 size F' a' (pre ++ [x]).length c' (V (pre ++ [x]))) (k2 : Fr F Wa W2) (k3 : Grew Wa F F') (k4 : Lies W2 F') (hcB : (W1.cell? ⟨Bx, 0, none⟩).isSome = true) (hfB : W1.frozen? ⟨Bx, 0, none⟩ = false) (R : Nat → Prop) (hR : ∀ k, R k → k < W0.heap.size ∧ k ≠ Bx) :
    Fr (fun k _ => ¬ K k ∧ ¬ R k) W1 (W2.setCell ⟨Bx, 0, none⟩ (.slice a' (pre ++ [x]).length c')) ∧ Coll size V W0 Bx K (pre ++ [x]) (W2.setCell ⟨Bx, 0, none⟩ (.slice a' (pre ++ [x]).length c')) := by
  have hBK : ¬ K Bx := fun h => by have := (h7 Bx h).1; omega
  have hW := h6.size
  have hW2 := hb.size
  have hW3 := k2.size
  have nF : ∀ o, ¬ F Bx o := fun o h => by have := (h3 Bx o h).1; omega
  have nF' : ∀ o, ¬ F' Bx o := fun o h => by
    rcases k3 Bx o h with h | h
    · exact nF o h
    · omega
  have f1 : Fr (fun k o => F k o) W1 W2 := (Fr.ofBelow hb (fun k o => F k o)).trans k2 (fun _ _ h => .inl h)
  have hset := fr_own' W2 Bx (.slice a' (pre ++ [x]).length c')
  refine ⟨(f1.mono (fun k o h => ⟨(h3 k o h).2, fun hr => by have := hR k hr; have := (h3 k o h).1; omega⟩)).trans hset (fun b o h => ?_), F', a', c', k1.fr hset (fun b o h h' => ?_), k4.later hset, fun k o hk => ?_, ?_, by rw [World.frozen?_setCell]; exact (f1.froz Bx 0 (by omega) (nF 0)).trans hfB, ?_, fun k hk => ⟨(h7 k hk).1, by have := (h7 k hk).2; simp; omega⟩⟩
  · obtain ⟨rfl, rfl⟩ := h
    exact .inl ⟨hBK, fun hr => (hR _ hr).2 rfl⟩
  · obtain ⟨rfl, rfl⟩ := h'
    exact nF' _ h
  · rcases k3 k o hk with h | h
    · exact h3 k o h
    · exact ⟨by omega, fun hk' => by have := (h7 k hk').2; omega⟩
  · refine World.cell?_setCell_same' _ _ _ ?_
    rw [f1.cell Bx 0 (by omega) (nF 0)]; exact hcB
  · refine (h6.trans f1 (fun b o h => .inr (h3 b o h).1)).trans hset (fun b o h => .inl h.1)
end
end Go.Proofs.YtgoegdlhbadlfaaDoor
