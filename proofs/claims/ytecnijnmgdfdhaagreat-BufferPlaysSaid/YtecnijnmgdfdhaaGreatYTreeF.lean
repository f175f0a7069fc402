/- Joined: Iter, Tr9, Tree29, Tree30, Tree31, Iter2, Tree32, Tree34, Iter3, Iter4. -/
import Derived.Test.YtecnijnmgdfdhaaGreatYKit
import Derived.RangeFuncNested
import Derived.RangeFuncLeaves
import Derived.RangeFuncRecord
import Derived.StillTailTactics
import Derived.OrdersIn
import Derived.TacticsInMore
import Derived.OwnWalkIn
import Derived.Test.YtecnijnmgdfdhaaGreatYTr
import Derived.Test.YtecnijnmgdfdhaaGreatYTree5
import Derived.Deep.LoopGhost
import Derived.Test.YtecnijnmgdfdhaaGreatYTreeE
import Derived.Test.YtecnijnmgdfdhaaGreatYTreeA
import Derived.Test.YtecnijnmgdfdhaaGreatYSep
namespace Go.Proofs.YtecnijnmgdfdhaaGreat
open Go.RowKit

/-! ### A drawn region: reads, and then a chain; in a round too -/
section
variable {P : Program} {ops : Array Oper} {md : Region.Mode} {w : World} {F : Fence} {n : Nat}
def noDefer (l : List Oper) : Bool := l.all fun o => match o.op with | .defer _ => false | _ => true
theorem noDefer_spec {l : List Oper} (h : noDefer l = true) {o : Oper} (ho : o ∈ l) : ∀ c, o.op ≠ .defer c := by
 intro c e
 have := List.all_eq_true.1 h o ho
 rw [e] at this
 cases this
theorem sem_round {o : Oper} (hd : ∀ c, o.op ≠ .defer c) (r : Option Nat) (ρ : Operand → Value) : Oper.semAt r ρ o = execOp ρ o := by
 cases r with
 | some l => exact Oper.semAt_some l ρ o hd
 | none => rfl
theorem opIn_of_still {o : Oper} {a : Act} {K : Act → Prop} {K' : Act → World → Prop} {Q' : Exit → Act → World → Prop} (hF : ∀ f, F.fn f) (hD : F.depth = none) (hd : ∀ c, o.op ≠ .defer c) (hc : ∀ f args W R, Calls P f args W R → CallsIn F (n - 1) P f args W R)
  (h : ∀ a, K a → K' a w) (hh : o.still P a w K) : o.wpIn F n P a w K' Q' := by
 refine ⟨fun f _ => hF f, ?_⟩
 rw [sem_round hd]
 unfold Oper.still at hh
 generalize (execOp a.eval o).run P w = r at *
 cases r with
 | ok x w' =>
  cases x <;> simp only [Oper.stillUpon] at hh <;> simp only [Oper.uponIn]
  case value u => obtain ⟨rfl, h2⟩ := hh; exact h _ h2
  case skip => obtain ⟨rfl, h2⟩ := hh; exact h _ h2
  case enter f args =>
   obtain ⟨rfl, v, hcl, hK⟩ := hh
   refine ⟨(fun hs => by rw [hD] at hs; cases hs), hc _ _ _ _ (hcl.mono fun e w'' he => ?_)⟩
   obtain ⟨rfl, rfl⟩ := he
   exact h _ hK
 | halt x w' => cases x <;> simp only [Oper.stillUpon] at hh
theorem opsIn_of_stOp {l : List Oper} {i : Nat} {a : Act} {K : Act → Prop} {K' : Act → World → Prop} {Q' : Exit → Act → World → Prop} (hF : ∀ f, F.fn f) (hD : F.depth = none) (hnd : noDefer l = true) (hc : ∀ f args W R, Calls P f args W R → CallsIn F (n - 1) P f args W R)
  (h : ∀ a, K a → K' a w) (hh : stOp P l.toArray w i K a) : wpOpIn F n P l.toArray Q' i K' a w := by
 unfold stOp at hh
 unfold wpOpIn
 split
 ·rename_i ho; simp only [ho] at hh; exact h _ hh
 ·rename_i o ho
  simp only [ho] at hh
  have hm : o ∈ l := by
   have := Array.mem_of_getElem? ho
   simpa using this
  split
  ·rename_i hw; simp only [hw, if_true] at hh; exact opIn_of_still hF hD (noDefer_spec hnd hm) hc h hh
  ·rename_i hw; simp only [hw] at hh; exact ⟨fun f _ => hF f, h _ hh⟩
theorem anyIn_of_head {l : List Oper} {N g : Nat} {L : Array Bool → Act → Prop} {Q' : Exit → Act → World → Prop} (hF : ∀ f, F.fn f) (hD : F.depth = none) (hnd : noDefer l = true) (hc : ∀ f args W R, Calls P f args W R → CallsIn F (n - 1) P f args W R)
  (hL : ∀ listed a, L listed a → wpAnyIn F n P md l.toArray Q' g listed a w) :
  ∀ (f : Nat) (listed : Array Bool) (a : Act), wpAnyL P md l.toArray w N L f listed a → wpAnyIn F n P md l.toArray Q' (f + g) listed a w
 | 0, listed, a, h => by rw [Nat.zero_add]; exact hL _ _ h
 | f + 1, listed, a, h => by
  rw [show f + 1 + g = (f + g) + 1 by omega]
  exact ⟨fun h0 => absurd h0 h.1, fun i hi => opsIn_of_stOp hF hD hnd hc (fun a' h' => anyIn_of_head hF hD hnd hc hL f _ a' h') (h.2 i hi).2⟩
theorem anyIn_of_seq {Q' : Exit → Act → World → Prop} : ∀ (l : List Oper) (k : Nat) (listed : Array Bool) (a : Act) (w : World), (∀ j, l[j]? = ops[k + j]?) →
  Region.seqB md ops l.length k listed = true → wpListIn F n P ops Q' l a w → wpAnyIn F n P md ops Q' l.length listed a w
 | [], _, _, _, _, _, hB, h => ⟨by simpa [Region.seqB] using hB, h⟩
 | o :: l, k, listed, a, w, hl, hB, h => by
  have h0 : ops[k]? = some o := by simpa using (hl 0).symm
  simp only [List.length_cons, Region.seqB, Bool.and_eq_true, decide_eq_true_eq] at hB
  refine ⟨fun h1 => (by rw [hB.1] at h1; cases h1), fun i hi => ?_⟩
  rw [hB.1] at hi
  have hik : i = k := by simpa using hi
  subst hik
  have hw : wpOpIn F n P ops Q' i (wpListIn F n P ops Q' l) a w := by unfold wpOpIn; simp only [h0]; exact h
  exact wpOpIn_mono (fun a' w' h' => anyIn_of_seq l (i + 1) _ a' w' (fun j => by have := hl (j + 1); simpa [Nat.add_assoc, Nat.add_comm 1 j] using this) hB.2 h') hw
theorem wpIn_region_still_tail {id : Nat} {Q : Exit → Act → World → Prop} {a : Act} {w : World} {l : List Oper} (N : Nat) (hF : ∀ f, F.fn f) (hD : F.depth = none) (hc : ∀ f args W R, Calls P f args W R → CallsIn F (n - 1) P f args W R)
  (hnd : noDefer l = true) (hm : P.follows .mixedOrders = true) (hB : Region.lexTailB .any l.toArray N = true)
  (h : wpStill P l.toArray { w with drawn := w.drawn + 1 } (fun a' => wpListIn F n P l.toArray Q (l.drop N) a' { w with drawn := w.drawn + 1 }) (l.take N) a) : (Code.region id l.toArray true).wpIn F n P Q a w := by
 simp only [Region.lexTailB, Bool.and_eq_true, decide_eq_true_eq] at hB
 obtain ⟨⟨⟨⟨hsel, hn⟩, hs⟩, hcc⟩, hlex⟩ := hB
 have hn' : N < l.length := by simpa using hn
 have htl : (l.take N).length = N := by simp; omega
 have hdl : (l.drop N).length = l.toArray.size - N := by simp
 have inv0 : HeadInv .any l.toArray N (Array.replicate l.toArray.size false) :=
  ⟨by simp, fun j oj _ hl => (by rw [getD_replicate_false] at hl; cases hl), fun t _ ht => getD_in (by simpa using ht) (getD_replicate_false _ _)⟩
 have H := wpAnyL_lex (md := .any) (g := l.toArray.size - N) hsel hs hcc hn (l.take N) 0 _ a (fun j hj => by
  have hj' : j < N := by rw [htl] at hj; exact hj
  simp [hj']) (by simpa using htl) inv0 (by rw [htl]; exact hlex) h
 refine wpIn_region_any hm ?_
 have := anyIn_of_head (F := F) (n := n) (Q' := Q) (g := l.toArray.size - N) hF hD hnd hc (fun listed a' hL => by
  have := anyIn_of_seq (F := F) (n := n) (md := .any) (Q' := Q) (l.drop N) N listed a' { w with drawn := w.drawn + 1 } (fun j => by simp [List.getElem?_drop]) (by rw [hdl]; exact hL.1) hL.2
  rwa [hdl] at this) _ _ _ H
 rw [htl, show N + (l.toArray.size - N) = l.toArray.size by omega] at this
 exact this
theorem wpStill_pass {Q : Act → Prop} {a : Act} {o : Oper} {rest : List Oper} (h : Region.wanted o (yielded ops a.tmps) = false) (hk : wpStill P ops w Q rest (a.put o.dst undef)) : wpStill P ops w Q (o :: rest) a := by
 unfold wpStill
 rw [h]
 exact hk
theorem wpListIn_pass {Q : Exit → Act → World → Prop} {a : Act} {o : Oper} {rest : List Oper} (hF : ∀ f, F.fn f) (hw : Region.wanted o (yielded ops a.tmps) = false) (h : wpListIn F n P ops Q rest (a.put o.dst undef) w) : wpListIn F n P ops Q (o :: rest) a w := by
 simp only [wpListIn, hw]
 exact ⟨fun f _ => hF f, h⟩
theorem enters_any {f : FuncId} {fn : Func} {c : Code} (hf : P.funcs[f]? = some fn) (hname : (fn.name == "runtime.NumGoroutine") = false) (hb : fn.body = some c) (args : Array Value) (w : World) : (callFunc f args).run P w = .ok (.enter f args) w := by
 have h1 : fn.name ≠ "runtime.NumGoroutine" := by simpa using hname
 simp [callFunc, hf, h1, hb, Go.mark]
theorem wide_all (f : FuncId) : Fence.wide.fn f := trivial
theorem calls_wide {m : Nat} {f : FuncId} {args : Array Value} {W : World} {R : Ending → World → Prop} (h : Calls P f args W R) : CallsIn Fence.wide m P f args W R := callsIn_wide.2 h
theorem calls_round {m : Nat} (l : Nat) {f : FuncId} {args : Array Value} {W : World} {R : Ending → World → Prop} (h : Calls P f args W R) : CallsIn (Fence.wide.inRound l) m P f args W R := CallsIn.inRound l (callsIn_wide.2 h)
end

/-! ### What an iterator tells, in blocks -/
section
variable {α : Type} {P : Program}
def Clos (I : (Nat → Prop) → List α → World → Prop) : Prop :=
 ∀ K K' pre W W', I K pre W → Fr (fun k _ => K k) W W' → (∀ k, K' k → K k ∨ (W.heap.size ≤ k ∧ k < W'.heap.size)) → I K' pre W'
def Tells (stops : Prop) (P : Program) (gf : Nat) (lb : Array Value) (encs : α → Array Value) (xs : List α) (R K0 : Nat → Prop) (W : World) : Prop :=
 ∀ (l : Nat) (J Jx : (Nat → Prop) → List α → World → Prop), (stops ∨ ∀ K pre W, ¬ Jx K pre W) → Clos J → Clos Jx →
  (∀ K pre x post W1, xs = pre ++ x :: post → (∀ k, K0 k → K k) → J K pre W1 → ∀ m, YieldAt Fence.wide m P l (encs x) W1 fun e W' =>
   Fr (fun k _ => ¬ K k ∧ ¬ R k) W1 W' ∧ ((e = .returned (.bool true) ∧ J K (pre ++ [x]) W') ∨ (e = .returned (.bool false) ∧ Jx K (pre ++ [x]) W'))) →
  J K0 [] W →
  Calls P gf (#[.func (.yield l) #[] #[]] ++ lb) W fun e W' => (∃ v, e = .returned v) ∧ ∃ K, (∀ k, K0 k → K k) ∧ (J K xs W' ∨ ∃ pre x post, xs = pre ++ x :: post ∧ Jx K (pre ++ [x]) W')
def tellPost (I : (Nat → Prop) → List α → World → Prop) (Ix : Code → (Nat → Prop) → List α → World → Prop) (R K : Nat → Prop) (xs : List α) (W : World) : Exit → Act → World → Prop
 | .normal, _, W' => Fr (fun k _ => ¬ K k ∧ ¬ R k) W W' ∧ I K xs W'
 | .ret, _, W' => Fr (fun k _ => ¬ K k ∧ ¬ R k) W W' ∧ Ix .ret K xs W'
 | .exit id, _, W' => Fr (fun k _ => ¬ K k ∧ ¬ R k) W W' ∧ Ix (.exit id) K xs W'
 | .goto t, _, W' => Fr (fun k _ => ¬ K k ∧ ¬ R k) W W' ∧ Ix (.goto t) K xs W'
 | .panic _, _, _ => False
 | .outgrown, _, _ => False
theorem Fr.putObj (W : World) (l : Nat) (o : Obj) : Fr (fun k _ => k = l) W (W.putObj l o) := (Fr.grown (grownBy_putObj' W l o)).mono (fun _b _ h => (Option.some.inj h).symm)
theorem Fr.laid (S : Foot) (W : World) (o : Obj) : Fr S W (W.alloc o) := (Fr.refl S W).alloc o
theorem Fr.obj {S : Foot} {W W' : World} (h : Fr S W W') {k : Nat} {o : Obj} (hk : W.heap[k]? = some o) (hn : ∀ x, ¬ S k x) : W'.heap[k]? = some o := (h.block k (Array.getElem?_eq_some_iff.1 hk).1 hn).trans hk
theorem roundIn_any {m m' : Nat} {l : Nat} {f : FuncId} {tmps : Array Value} {assign body : Code} {w : World} {R : Ending → World → Prop} (h : RoundIn Fence.wide m P l f tmps assign body w R) : RoundIn Fence.wide m' P l f tmps assign body w R :=
 ⟨h.1, fun c cs _ => h.2 c cs (room_wide _)⟩
variable {n : Nat}
theorem wpIn_range_tells {g : Operand} {ps : Array Tmp} {assign body : Code} {Q : Exit → Act → World → Prop} {a : Act} {w : World}
  (h1 : 1 ≤ n) {gf : Nat} {lb : Array Value} (hg : a.eval g = .func (.func gf) #[] lb) (eg : ∀ args w, (callFunc gf args).run P w = .ok (.enter gf args) w)
  {encs : α → Array Value} {stops : Prop} {xs : List α} {R K0 : Nat → Prop} (hseq : ∀ o1 o2, Tells stops P gf lb encs xs R K0 ((w.alloc o1).alloc o2)) (hps : ∀ x, (encs x).size = ps.size)
  (hR : ∀ k, R k → k < w.heap.size) (hK0 : ∀ k, K0 k → k < w.heap.size)
  (I : (Nat → Prop) → List α → World → Prop) (Ix : Code → (Nat → Prop) → List α → World → Prop) (hI : Clos I) (hIx : ∀ c, Clos (Ix c)) (hst : stops ∨ ∀ c K pre W, ¬ Ix c K pre W) (h0 : I K0 [] w) (a₁ : α → Act)
  (hassign : ∀ (l : Nat) (x : α) (W : World) (K : Act → World → Prop), K (a₁ x) W →
   assign.wpIn (Fence.wide.inRound l) (n - 1 - 1) P (Exit.then K (fun _ _ _ => False)) { tmps := (ps.zip (encs x)).foldl (fun t (p, v) => t.setIfInBounds p v) a.tmps, defers := [] } W)
  (hbody : ∀ (l : Nat) (K : Nat → Prop) (pre : List α) (x : α) (post : List α) (W : World), xs = pre ++ x :: post → (∀ k, K0 k → K k) → I K pre W → body.wpIn (Fence.wide.inRound l) (n - 1 - 1) P (tellPost I Ix R K (pre ++ [x]) W) (a₁ x) W)
  (hdone : ∀ (D : Nat) (K : Nat → Prop) (W : World), I K xs W → (∀ k, K0 k → K k) → K D → w.heap.size ≤ D → W.heap[D]? = some (.deferred (some [])) → Q .normal { a with defers := { target := .collected D, args := #[] } :: a.defers } W)
  (hstop : ∀ (D : Nat) (c : Code) (K : Nat → Prop) (pre : List α) (x : α) (post : List α) (W : World), xs = pre ++ x :: post → Ix c K (pre ++ [x]) W → (∀ k, K0 k → K k) → K D → w.heap.size ≤ D → W.heap[D]? = some (.deferred (some [])) →
   c.wpIn Fence.wide n P Q { a with defers := { target := .collected D, args := #[] } :: a.defers } W) :
  (Code.rangeFunc g ps assign body).wpIn Fence.wide n P Q a w := by
 refine wpIn_rangeFunc ?_
 intro fn _
 obtain ⟨s0, hs0⟩ : ∃ s0, w.heap.size = s0 := ⟨_, rfl⟩
 obtain ⟨rec, hrec⟩ : ∃ rec : LoopState → Option Code → Loop, rec = fun st pe => { state := st, pending := pe, fn, tmps := a.tmps, params := ps, assign, body, defers := w.heap.size } := ⟨_, rfl⟩
 obtain ⟨W1, hW1⟩ : ∃ W1, (w.alloc (.deferred (some []))).alloc (.loop (rec .ready none)) = W1 := ⟨_, rfl⟩
 have hL1 : W1.heap[s0 + 1]? = some (.loop (rec .ready none)) := by
  rw [← hW1, ← hs0]; have := World.alloc_heap_new (w.alloc (.deferred (some []))) (.loop (rec .ready none)); rwa [World.size_alloc] at this
 have hK1 : W1.heap[s0]? = some (.deferred (some [])) := by
  rw [← hW1, ← hs0]; exact (Below.heap_alloc _ _ _ (by simp)).trans (World.alloc_heap_new w _)
 have hsz1 : W1.heap.size = s0 + 2 := by rw [← hW1]; simp [hs0]
 have hfr1 : Fr (fun k _ => K0 k) w W1 := by rw [← hW1]; exact ((Fr.refl _ w).alloc _).alloc _
 have hI1 : I (fun k => K0 k ∨ k = s0 ∨ k = s0 + 1) [] W1 := hI _ _ _ _ _ h0 hfr1 (fun k hk => by
  rcases hk with h | rfl | rfl
  ·exact .inl h
  ·exact .inr (by omega)
  ·exact .inr (by omega))
 refine ⟨s0 + 1, [{ target := .collected s0, args := #[] }], W1, { target := .fn (.func gf) lb, args := #[.func (.yield (s0 + 1)) #[] #[]] }, W1, gf,
  #[.func (.yield (s0 + 1)) #[] #[]] ++ lb, W1, ?_, ?_, ?_, ?_, fun _ => h1, callsIn_wide.2 ?_⟩
 ·rw [← hW1, hrec, ← hs0]; exact run_enterLoop_outer _ _ _ _ _
 ·simp only [resolve, hg]
  simp [go_sem]
 ·intro f' _; trivial
 ·simp [invoke, go_sem, eg]
 have cl : ∀ {I : (Nat → Prop) → List α → World → Prop}, Clos I → ∀ st pe, Clos (fun K pre W => I (fun k => K k ∨ k = s0 ∨ k = s0 + 1) pre W ∧ W.heap[s0 + 1]? = some (.loop (rec st pe)) ∧ W.heap[s0]? = some (.deferred (some [])) ∧ ¬ K s0 ∧ ¬ K (s0 + 1)) := by
  intro I hI st pe K K' pre W W' ⟨hi, hl, hk, n1, n2⟩ hf hK
  have l0 := (Array.getElem?_eq_some_iff.1 hl).1
  refine ⟨hI _ _ _ _ _ hi (hf.mono (fun k _ h => .inl h)) (fun k h => ?_), hf.obj hl (fun _ => n2), hf.obj hk (fun _ => n1), fun h => ?_, fun h => ?_⟩
  ·rcases h with h | h | h
   ·exact (hK k h).imp .inl id
   ·exact .inl (.inr (.inl h))
   ·exact .inl (.inr (.inr h))
  ·rcases hK _ h with h | h
   ·exact n1 h
   ·omega
  ·rcases hK _ h with h | h
   ·exact n2 h
   ·omega
 have hseq1 := hseq (.deferred (some [])) (.loop (rec .ready none))
 rw [hW1] at hseq1
 refine (hseq1 (s0 + 1)
  (fun K pre W => I (fun k => K k ∨ k = s0 ∨ k = s0 + 1) pre W ∧ W.heap[s0 + 1]? = some (.loop (rec .ready none)) ∧ W.heap[s0]? = some (.deferred (some [])) ∧ ¬ K s0 ∧ ¬ K (s0 + 1))
  (fun K pre W => ∃ c, Ix c (fun k => K k ∨ k = s0 ∨ k = s0 + 1) pre W ∧ W.heap[s0 + 1]? = some (.loop (rec .done (some c))) ∧ W.heap[s0]? = some (.deferred (some [])) ∧ ¬ K s0 ∧ ¬ K (s0 + 1))
  (hst.imp id (fun h K pre W ⟨c, hc, _⟩ => h _ _ _ _ hc)) (cl hI _ _) (fun K K' pre W W' ⟨c, hc⟩ hf hK => ⟨c, cl (hIx c) _ _ K K' pre W W' hc hf hK⟩) ?_ ⟨hI1, hL1, hK1, fun h => by have := hK0 _ h; omega, fun h => by have := hK0 _ h; omega⟩).mono ?_
 ·-- one round
  rintro K pre x post W hx hK0K ⟨hi, hl, hk, n1, n2⟩ m
  have hlt : s0 + 1 < W.heap.size := (Array.getElem?_eq_some_iff.1 hl).1
  have hy := run_yield (P := P) (args := encs x) hl (by rw [hrec]; exact hps x)
  rw [hrec] at hy
  refine ⟨fn, _, assign, body, hy, roundIn_any (m := n - 1 - 1) (roundIn_of_wpIn trivial (hassign _ x W _ ⟨_, run_beginRound hl (by rw [hrec]), ?_⟩))⟩
  have hl2 : (W.putObj (s0 + 1) (.loop { rec .ready none with state := .busy })).heap[s0 + 1]? = some (.loop { rec .ready none with state := .busy }) := World.putObj_heap_same hlt
  have hk2 : (W.putObj (s0 + 1) (.loop { rec .ready none with state := .busy })).heap[s0]? = some (.deferred (some [])) := (World.putObj_heap_other (by omega)).trans hk
  have hf2 := Fr.putObj W (s0 + 1) (.loop { rec .ready none with state := .busy })
  have hi2 := hI _ (fun k => K k ∨ k = s0 ∨ k = s0 + 1) _ _ _ hi (hf2.mono (fun k _ h => .inr (.inr h))) (fun k h => .inl h)
  refine wpIn_mono (hbody _ _ pre x post _ hx (fun k h => .inl (hK0K k h)) hi2) ?_
  have nr : ∀ k, R k → ¬ k = s0 ∧ ¬ k = s0 + 1 := fun k h => by have := hR k h; omega
  have fin : ∀ {I : (Nat → Prop) → List α → World → Prop}, Clos I → ∀ (jump : Option Code) (W3 : World), Fr (fun k _ => ¬ (K k ∨ k = s0 ∨ k = s0 + 1) ∧ ¬ R k) (W.putObj (s0 + 1) (.loop { rec .ready none with state := .busy })) W3 → I (fun k => K k ∨ k = s0 ∨ k = s0 + 1) (pre ++ [x]) W3 →
    (Instr.endRound (s0 + 1) jump).run P W3 = .ok (.bool jump.isNone) (W3.putObj (s0 + 1) (.loop (rec (if jump.isNone then .ready else .done) jump))) ∧
    Fr (fun k _ => ¬ K k ∧ ¬ R k) W (W3.putObj (s0 + 1) (.loop (rec (if jump.isNone then .ready else .done) jump))) ∧
    I (fun k => K k ∨ k = s0 ∨ k = s0 + 1) (pre ++ [x]) (W3.putObj (s0 + 1) (.loop (rec (if jump.isNone then .ready else .done) jump))) ∧
    (W3.putObj (s0 + 1) (.loop (rec (if jump.isNone then .ready else .done) jump))).heap[s0 + 1]? = some (.loop (rec (if jump.isNone then .ready else .done) jump)) ∧
    (W3.putObj (s0 + 1) (.loop (rec (if jump.isNone then .ready else .done) jump))).heap[s0]? = some (.deferred (some [])) := fun {I} hI jump W3 hf3 hi3 => by
   have hl3 := hf3.obj hl2 (fun _ h => h.1 (.inr (.inr rfl)))
   have hk3 := hf3.obj hk2 (fun _ h => h.1 (.inr (.inl rfl)))
   have hr := run_endRound (P := P) jump hl3
   have hf4 := Fr.putObj W3 (s0 + 1) (.loop (rec (if jump.isNone then .ready else .done) jump))
   have hown : ∀ k (_ : Nat), k = s0 + 1 → (¬ K k ∧ ¬ R k) := fun k _ h => by
    subst h
    exact ⟨n2, fun h => (nr _ h).2 rfl⟩
   refine ⟨?_, ((hf2.mono hown).trans hf3 (fun b _ h => .inl ⟨fun h' => h.1 (.inl h'), h.2⟩)).trans hf4 (fun b o h => .inl (hown b o h)), hI _ _ _ _ _ hi3 (hf4.mono (fun k _ h => .inr (.inr h))) (fun k h => .inl h), World.putObj_heap_same (Array.getElem?_eq_some_iff.1 hl3).1, (World.putObj_heap_other (by omega)).trans hk3⟩
   rw [hr, hrec]
  rintro e a3 W3 hp
  cases e with
  | normal =>
   obtain ⟨hr, q1, q2, q3, q4⟩ := fin hI none W3 hp.1 hp.2
   exact ⟨_, _, hr, q1, .inl ⟨rfl, q2, q3, q4, n1, n2⟩⟩
  | ret =>
   obtain ⟨hr, q1, q2, q3, q4⟩ := fin (hIx _) (some .ret) W3 hp.1 hp.2
   exact ⟨_, _, hr, q1, .inr ⟨rfl, .ret, q2, q3, q4, n1, n2⟩⟩
  | exit id =>
   obtain ⟨hr, q1, q2, q3, q4⟩ := fin (hIx _) (some (.exit id)) W3 hp.1 hp.2
   exact ⟨_, _, hr, q1, .inr ⟨rfl, .exit id, q2, q3, q4, n1, n2⟩⟩
  | goto t =>
   obtain ⟨hr, q1, q2, q3, q4⟩ := fin (hIx _) (some (.goto t)) W3 hp.1 hp.2
   exact ⟨_, _, hr, q1, .inr ⟨rfl, .goto t, q2, q3, q4, n1, n2⟩⟩
  | panic ch => exact hp.elim
  | outgrown => exact hp.elim
 ·-- behind the iterator
  rintro e W2 ⟨⟨v, rfl⟩, K, hK, (⟨hi, hl, hk, n1, n2⟩ | ⟨pre, x, post, hx, c, hi, hl, hk, n1, n2⟩)⟩
  ·refine ⟨none, _, (by have := run_endLoop (P := P) hl (by rw [hrec]; simp); rw [hrec] at this; exact this), ?_⟩
   have hf4 := Fr.putObj W2 (s0 + 1) (.loop { rec .ready none with state := .exhausted })
   rw [hrec] at hf4
   exact hdone s0 _ _ (hI _ _ _ _ _ hi (hf4.mono (fun k _ h => .inr (.inr h))) (fun k h => .inl h)) (fun k h => .inl (hK k h)) (.inr (.inl rfl)) (by omega) ((World.putObj_heap_other (by omega)).trans hk)
  ·refine ⟨some c, _, (by have := run_endLoop (P := P) hl (by rw [hrec]; simp); rw [hrec] at this; exact this), ?_⟩
   have hf4 := Fr.putObj W2 (s0 + 1) (.loop { rec .done (some c) with state := .exhausted })
   rw [hrec] at hf4
   exact hstop s0 c _ pre x post _ hx (hIx c _ _ _ _ _ hi (hf4.mono (fun k _ h => .inr (.inr h))) (fun k h => .inl h)) (fun k h => .inl (hK k h)) (.inr (.inl rfl)) (by omega) ((World.putObj_heap_other (by omega)).trans hk)
end
/-! ### A body that collects -/
theorem fr_own' (w : World) (b : Nat) (v : Value) : Fr (fun k o => k = b ∧ o = 0) w (w.setCell ⟨b, 0, none⟩ v) := (Fr.refl _ w).setCell (.inl ⟨rfl, rfl⟩) v
theorem wpListIn_app_sl {Fe : Fence} {ne : Nat} {P : Program} {w : World} {ops : Array Oper} {rest : List Oper} {o : Oper} {a : Act} {Q : Exit → Act → World → Prop} (hgd : o.guard = none) (s x : Operand) (t : TypeId)
  (ho : o.op = .call { callee := .builtin .append, args := #[s, x], argTypes := #[t, t] })
  (e : TypeId) (i : TypeInfo) (z : Value) (size bytes : Nat) (ht : P.underlying t = some (.slice e)) (hi : P.info? e = some i) (hz : i.zero = some z)
  (hsize : i.size = size) (hby : i.bytes = bytes) (hzs : z.cells.size = size) (hsz : 0 < size)
  (F : Foot) (a1 : Option Addr) (n c : Nat) (xs : List Value) (hs : a.eval s = .slice a1 n c) (hown : Sl w size F a1 n c xs) (hlie : Lies w F)
  (a2 : Option Addr) (m c2 : Nat) (news : List Value) (hx : a.eval x = .slice a2 m c2) (hr : Rd w size a2 m c2 news)
  (N : Nat) (ys : List Value) (hN : n + m = N) (hys : xs ++ news = ys) (h63 : N ≤ maxLen) (hbytes : N * bytes ≤ 140737488355328)
  (h : ∀ a' c' w' F', Sl w' size F' a' N c' ys → Fr F w w' → Grew w F F' → Lies w' F' → wpListIn Fe ne P ops Q rest (a.put o.dst (.slice a' N c')) w') : wpListIn Fe ne P ops Q (o :: rest) a w := by
 subst hN
 subst hys
 refine wpListIn_plain hgd fun K hK => ?_
 obtain ⟨a', c', w', F', hrun, h2, h3, h4, h5⟩ := run_app_sl (P := P) t o.type e i z size bytes ht hi hz hsize hby hzs hsz a1 n c xs hown hlie a2 m c2 news hr h63 hbytes
 unfold Oper.wpIn
 refine ⟨?_, ?_⟩
 ·simp [Oper.about, ho, resolve, Target.leads, Sem.run_pure]
 ·rw [Oper.semAt_plain Fe _ _ (by rw [ho]; intro c hc'; cases hc')]
  simp [execOp, ho, resolve, invoke, builtin, hs, hx, hrun, Result.andThen]
  exact hK _ _ (h _ _ _ _ h2 h3 h4 h5)
section
variable {α : Type} {size : Nat} {V : List α → List Value} {W0 W1 W2 : World} {Bx : Nat} {K : Nat → Prop} {pre : List α} {x : α}
def Coll (size : Nat) (V : List α → List Value) (W0 : World) (Bx : Nat) (K : Nat → Prop) (pre : List α) (W : World) : Prop :=
 ∃ (F : Foot) (a : Option Addr) (c : Nat), Sl W size F a pre.length c (V pre) ∧ Lies W F ∧ (∀ k o, F k o → W0.heap.size ≤ k ∧ ¬ K k) ∧ W.cell? ⟨Bx, 0, none⟩ = some (.slice a pre.length c) ∧ W.frozen? ⟨Bx, 0, none⟩ = false ∧
  Fr (fun k _ => k = Bx) W0 W ∧ ∀ k, K k → W0.heap.size ≤ k ∧ k < W.heap.size
theorem Coll.clos (hB : Bx < W0.heap.size) : Clos (Coll size V W0 Bx) := by
 intro K K' pre W W' ⟨F, a, c, h1, h2, h3, h4, h5, h6, h7⟩ hf hK
 have hBK : ¬ K Bx := fun h => by have := (h7 Bx h).1; omega
 have hW := h6.size
 refine ⟨F, a, c, h1.fr hf (fun b o hb hk => (h3 b o hb).2 hk), h2.later hf, fun k o hk => ⟨(h3 k o hk).1, fun hk' => ?_⟩, cell_fr hf h4 hBK, (hf.froz Bx 0 (by omega) hBK).trans h5, h6.trans hf (fun b o hb => .inr (h7 b hb).1), fun k hk => ?_⟩
 ·rcases hK k hk' with h | h
  ·exact (h3 k o hk).2 h
  ·have := h2 k o hk; omega
 ·have := hf.size
  rcases hK k hk with h | h
  ·have := h7 k h; omega
  ·omega
theorem Coll.start (_hB : Bx < W0.heap.size) (hV : V [] = []) (hc : W0.cell? ⟨Bx, 0, none⟩ = some (.slice none 0 0)) (hf : W0.frozen? ⟨Bx, 0, none⟩ = false) : Coll size V W0 Bx (fun _ => False) [] W0 :=
 ⟨noCells, none, 0, by rw [hV]; exact Sl.none_ W0 size, fun _ _ h => h.elim, fun _ _ h => h.elim, hc, hf, Fr.refl _ _, fun _ h => h.elim⟩
theorem Coll.step (hB : Bx < W0.heap.size) {F : Foot} {Wa W2 : World} {a' : Option Addr} {c' : Nat} {F' : Foot} (_h2 : Lies W1 F) (h3 : ∀ k o, F k o → W0.heap.size ≤ k ∧ ¬ K k) (h6 : Fr (fun k _ => k = Bx) W0 W1) (h7 : ∀ k, K k → W0.heap.size ≤ k ∧ k < W1.heap.size)
  (hb : Below W1.heap.size W1 Wa) (k1 : Sl W2 size F' a' (pre ++ [x]).length c' (V (pre ++ [x]))) (k2 : Fr F Wa W2) (k3 : Grew Wa F F') (k4 : Lies W2 F') (hcB : (W1.cell? ⟨Bx, 0, none⟩).isSome = true) (hfB : W1.frozen? ⟨Bx, 0, none⟩ = false) (R : Nat → Prop) (hR : ∀ k, R k → k < W0.heap.size ∧ k ≠ Bx) :
  Fr (fun k _ => ¬ K k ∧ ¬ R k) W1 (W2.setCell ⟨Bx, 0, none⟩ (.slice a' (pre ++ [x]).length c')) ∧ Coll size V W0 Bx K (pre ++ [x]) (W2.setCell ⟨Bx, 0, none⟩ (.slice a' (pre ++ [x]).length c')) := by
 have hBK : ¬ K Bx := fun h => by have := (h7 Bx h).1; omega
 have hW := h6.size
 have hW2 := hb.size
 have hW3 := k2.size
 have nF : ∀ o, ¬ F Bx o := fun o h => by have := (h3 Bx o h).1; omega
 have nF' : ∀ o, ¬ F' Bx o := fun o h => by
  rcases k3 Bx o h with h | h
  ·exact nF o h
  ·omega
 have f1 : Fr (fun k o => F k o) W1 W2 := (Fr.ofBelow hb (fun k o => F k o)).trans k2 (fun _ _ h => .inl h)
 have hset := fr_own' W2 Bx (.slice a' (pre ++ [x]).length c')
 refine ⟨(f1.mono (fun k o h => ⟨(h3 k o h).2, fun hr => by have := hR k hr; have := (h3 k o h).1; omega⟩)).trans hset (fun b o h => ?_), F', a', c', k1.fr hset (fun b o h h' => ?_), k4.later hset, fun k o hk => ?_, ?_, by rw [World.frozen?_setCell]; exact (f1.froz Bx 0 (by omega) (nF 0)).trans hfB, ?_, fun k hk => ⟨(h7 k hk).1, by have := (h7 k hk).2; simp; omega⟩⟩
 ·obtain ⟨rfl, rfl⟩ := h
  exact .inl ⟨hBK, fun hr => (hR _ hr).2 rfl⟩
 ·obtain ⟨rfl, rfl⟩ := h'
  exact nF' _ h
 ·rcases k3 k o hk with h | h
  ·exact h3 k o h
  ·exact ⟨by omega, fun hk' => by have := (h7 k hk').2; omega⟩
 ·refine World.cell?_setCell_same' _ _ _ ?_
  rw [f1.cell Bx 0 (by omega) (nF 0)]; exact hcB
 ·refine (h6.trans f1 (fun b o h => .inr (h3 b o h).1)).trans hset (fun b o h => .inl h.1)
end
end Go.Proofs.YtecnijnmgdfdhaaGreat

namespace Go.Proofs.YtecnijnmgdfdhaaGreat
namespace Tr
theorem pre_succ (n : Nat) : ∀ (A : List G) (C : List Pr) (k : G) (c : Pr), A.length = C.length → pre n (A ++ [k]) (C ++ [c]) = pre n A C ++ (flat n k ++ [c])
 | [], [], k, c, _ => by simp [pre]
 | [], _ :: _, _, _, h => by simp at h
 | _ :: _, [], _, _, h => by simp at h
 | a :: A, d :: C, k, c, h => by
  have ih := pre_succ n A C k c (by simpa using h)
  simp only [List.cons_append, pre]
  rw [ih]; simp
def told (h : Nat) (g : G) (i : Nat) : List Pr :=
 match h with
 | 0 => g.ps.take i
 | h + 1 => if i ≤ g.ps.length then pre h (g.ks.take i) (g.ps.take i) else flat (h + 1) g
theorem told_succ (h : Nat) (g : G) (i : Nat) : told (h + 1) g i = if i ≤ g.ps.length then pre h (g.ks.take i) (g.ps.take i) else flat (h + 1) g := rfl
theorem told_zero (h : Nat) (g : G) : told h g 0 = [] := by
 cases h with
 | zero => simp [told]
 | succ h => simp [told, pre]
theorem told_leaf {g : G} {i : Nat} {p : Pr} (hp : g.ps[i]? = some p) : told 0 g (i + 1) = told 0 g i ++ [p] ∧ ∃ post, flat 0 g = told 0 g i ++ p :: post := by
 have hlt := (List.getElem?_eq_some_iff.1 hp).1
 refine ⟨by simp [told, List.take_add_one, hp], g.ps.drop (i + 1), ?_⟩
 show g.ps = g.ps.take i ++ p :: g.ps.drop (i + 1)
 have e : g.ps.drop i = p :: g.ps.drop (i + 1) := by
  rw [List.drop_eq_getElem_cons hlt]
  obtain ⟨_, h2⟩ := List.getElem?_eq_some_iff.1 hp
  rw [h2]
 rw [← e, List.take_append_drop]
theorem told_leaf_end {g : G} {i : Nat} (hi : g.ps.length ≤ i) : told 0 g i = flat 0 g := List.take_of_length_le hi
theorem told_end {h : Nat} {g : G} {i : Nat} (hi : g.ps.length < i) : told (h + 1) g i = flat (h + 1) g := by
 rw [told_succ, if_neg (by omega)]
theorem split_kid {o h : Nat} {g : G} (hk : Kids o (h + 1) g) {i : Nat} {k : G} (hki : g.ks[i]? = some k) (hi : i ≤ g.ps.length) : flat (h + 1) g = told (h + 1) g i ++ flat h k ++ suf h (g.ks.drop (i + 1)) (g.ps.drop i) := by
 have hlt := (List.getElem?_eq_some_iff.1 hki).1
 have e : g.ks.drop i = k :: g.ks.drop (i + 1) := by
  rw [List.drop_eq_getElem_cons hlt]
  obtain ⟨_, h2⟩ := List.getElem?_eq_some_iff.1 hki
  rw [h2]
 have h1 := hk.1
 have := weave_kid h (g.ks.take i) (g.ps.take i) k (g.ks.drop (i + 1)) (g.ps.drop i) (by rw [List.length_take, List.length_take]; omega) (by rw [List.length_drop, List.length_drop]; omega)
 rw [← e, List.take_append_drop, List.take_append_drop] at this
 rw [told_succ, if_pos hi]
 exact this
theorem told_kid {o h : Nat} {g : G} (hk : Kids o (h + 1) g) {i : Nat} {k : G} {p : Pr} (hki : g.ks[i]? = some k) (hpi : g.ps[i]? = some p) :
  told (h + 1) g (i + 1) = told (h + 1) g i ++ flat h k ++ [p] ∧ ∃ post, flat (h + 1) g = told (h + 1) g i ++ flat h k ++ p :: post := by
 have hlt := (List.getElem?_eq_some_iff.1 hpi).1
 have hltk := (List.getElem?_eq_some_iff.1 hki).1
 have h1 := hk.1
 refine ⟨?_, ?_⟩
 ·rw [told_succ, told_succ, if_pos (by omega), if_pos (by omega), List.take_add_one, List.take_add_one, hki, hpi]
  show pre h (g.ks.take i ++ [k]) (g.ps.take i ++ [p]) = _
  rw [pre_succ _ _ _ _ _ (by rw [List.length_take, List.length_take]; omega)]
  simp
 ·have hs := split_kid hk hki (by omega)
  have e : g.ps.drop i = p :: g.ps.drop (i + 1) := by
   rw [List.drop_eq_getElem_cons hlt]
   obtain ⟨_, h2⟩ := List.getElem?_eq_some_iff.1 hpi
   rw [h2]
  have hlk : 0 < (g.ks.drop (i + 1)).length := by rw [List.length_drop]; omega
  match hd : g.ks.drop (i + 1), hlk with
  | k2 :: ks, _ =>
   rw [e, hd, suf_cons] at hs
   exact ⟨_, hs⟩
theorem told_last {o h : Nat} {g : G} (hk : Kids o (h + 1) g) {k : G} (hki : g.ks[g.ps.length]? = some k) : flat (h + 1) g = told (h + 1) g g.ps.length ++ flat h k := by
 have hs := split_kid hk hki (Nat.le_refl _)
 have h1 := hk.1
 rw [List.drop_of_length_le (by omega)] at hs
 simpa [suf] using hs
end Tr
end Go.Proofs.YtecnijnmgdfdhaaGreat

namespace Go.Proofs.YtecnijnmgdfdhaaGreat
open Go.RowKit Tr
open Ky (less)

def mark (D : Nat) : Deferred := { target := .collected D, args := #[] }
theorem leave_marks {P : Program} {n : Nat} {fn : Func} {tmps : Array Value} {R : Ending → World → Prop} : ∀ (Ds : List Nat) (W : World), Ds.Nodup → (∀ D ∈ Ds, W.heap[D]? = some (.deferred (some []))) →
  (∀ W', Fr (fun k _ => k ∈ Ds) W W' → ∃ v, (results fn tmps).run P W' = .ok v W' ∧ R (.returned v) W') → LeavesInM Fence.wide n P fn tmps R (Ds.map mark) .returning W
 | [], W, _, _, h => h W (Fr.refl _ _)
 | D :: Ds, W, hn, hd, h => by
  have hD := hd D (by simp)
  have hn' := List.nodup_cons.1 hn
  refine ⟨by simp, .inl ⟨D, _, rfl, run_takeDeferred hD, leave_marks Ds _ hn'.2 (fun E hE => ?_) (fun W' hf => ?_)⟩⟩
  ·have : E ≠ D := fun e => hn'.1 (e ▸ hE)
   exact (World.putObj_heap_other this).trans (hd E (List.mem_cons_of_mem _ hE))
  ·refine h W' (((Fr.putObj W D (.deferred none)).mono (fun b _ e => by subst e; simp)).trans hf (fun b _ hb => .inl (List.mem_cons_of_mem _ hb)))
theorem leave_none {P : Program} {n : Nat} {fn : Func} {tmps : Array Value} {R : Ending → World → Prop} {W : World} (h : ∃ v, (results fn tmps).run P W = .ok v W ∧ R (.returned v) W) : LeavesInM Fence.wide n P fn tmps R [] .returning W := h
theorem calls_marks {P : Program} {f : FuncId} {fn : Func} {c : Code} {args : Array Value} {w : World} {R : Ending → World → Prop} (hf : P.funcs[f]? = some fn) (hb : fn.body = some c)
  (h : c.wpIn Fence.wide 3 P (bodyPostM Fence.wide 3 P fn R) { tmps := args ++ Array.replicate (fn.ntmps - args.size) undef, defers := [] } w) : Calls P f args w R :=
 callsIn_wide.1 (callsIn_of_wp_marks hf hb trivial h rfl)
structure Wlk (W : World) (R : Nat → Prop) (q : Nat) (v : Value) (J : (Nat → Prop) → List Pr → World → Prop) (K : Nat → Prop) (Ds : List Nat) (pre : List Pr) (wr : World) : Prop where
 j : J K pre wr
 lo : ∀ k, K k → W.heap.size ≤ k ∧ k < wr.heap.size
 qk : K q
 cq : wr.cell? ⟨q, 0, none⟩ = some v
 keep : Fr (fun k _ => ¬ R k) W wr
 nd : Ds.Nodup
 ds : ∀ D ∈ Ds, K D ∧ wr.heap[D]? = some (.deferred (some []))
section
variable {W : World} {R : Nat → Prop} {q : Nat} {v : Value} {J : (Nat → Prop) → List Pr → World → Prop} {K : Nat → Prop} {Ds : List Nat} {pre : List Pr} {wr wr' : World}
theorem Wlk.own (h : Wlk W R q v J K Ds pre wr) (hJ : Clos J) (_hR : ∀ k, R k → k < W.heap.size) (hb : Below wr.heap.size wr wr') : Wlk W R q v J (fun k => K k ∨ (wr.heap.size ≤ k ∧ k < wr'.heap.size)) Ds pre wr' := by
 refine ⟨hJ _ _ _ _ _ h.j (Fr.ofBelow hb _) (fun k hk => hk), fun k hk => ?_, .inl h.qk, old_cell h.cq hb, h.keep.trans (Fr.ofBelow hb noCells) (fun _ _ h => h.elim), h.nd, fun D hD => ⟨.inl (h.ds D hD).1, (Fr.ofBelow hb noCells).obj (h.ds D hD).2 (fun _ h => h)⟩⟩
 rcases hk with hk | hk
 ·have := h.lo k hk; have := hb.size; omega
 ·have := h.keep.size; omega
theorem Wlk.sub {K2 : Nat → Prop} (h : Wlk W R q v J K Ds pre wr) (hJ : Clos J) (h1 : ∀ k, K2 k ↔ K k) : Wlk W R q v J K2 Ds pre wr :=
 ⟨hJ _ _ _ _ _ h.j (Fr.refl _ _) (fun k hk => .inl ((h1 k).1 hk)), fun k hk => h.lo k ((h1 k).1 hk), (h1 q).2 h.qk, h.cq, h.keep, h.nd, fun D hD => ⟨(h1 D).2 (h.ds D hD).1, (h.ds D hD).2⟩⟩
theorem Wlk.drew (h : Wlk W R q v J K Ds pre wr) (hJ : Clos J) : Wlk W R q v J K Ds pre wr.drew :=
 ⟨hJ _ _ _ _ _ h.j (Fr.ofBelow (below_drewN wr 1) _) (fun _k hk => .inl hk), h.lo, h.qk, h.cq, h.keep.drew, h.nd, h.ds⟩
theorem Wlk.round {pre' : List Pr} (h : Wlk W R q v J K Ds pre wr) (hj : J K pre' wr') (hf : Fr (fun k _ => ¬ K k ∧ ¬ R k) wr wr') : Wlk W R q v J K Ds pre' wr' :=
 ⟨hj, fun k hk => ⟨(h.lo k hk).1, Nat.lt_of_lt_of_le (h.lo k hk).2 hf.size⟩, h.qk, (hf.cell q 0 (h.lo q h.qk).2 (fun e => e.1 h.qk)).trans h.cq, h.keep.trans hf (fun _ _ e => .inl e.2), h.nd,
  fun D hD => ⟨(h.ds D hD).1, hf.obj (h.ds D hD).2 (fun _ e => e.1 (h.ds D hD).1)⟩⟩
theorem Wlk.cellR (h : Wlk W R q v J K Ds pre wr) (hR : ∀ k, R k → k < W.heap.size) {b x : Nat} {u : Value} (hb : R b) (hc : W.cell? ⟨b, x, none⟩ = some u) : wr.cell? ⟨b, x, none⟩ = some u :=
 (h.keep.cell b x (hR b hb) (fun e => e hb)).trans hc
theorem Wlk.top (h : Wlk W R q v J K Ds pre wr) {g : G} {pa : Option Addr} {pc : Nat} {ka : Option Addr} {kc : Nat} (ht : Top W g pa pc ka kc) (hf : ∀ k x, topF g k x → R k) : Top wr g pa pc ka kc := ht.fr h.keep (fun k x h1 h2 => h2 (hf k x h1))
theorem Wlk.cons {D : Nat} (h : Wlk W R q v J K Ds pre wr) (hK : K D) (hD : D ∉ Ds) (hd : wr.heap[D]? = some (.deferred (some []))) : Wlk W R q v J K (D :: Ds) pre wr :=
 ⟨h.j, h.lo, h.qk, h.cq, h.keep, List.nodup_cons.2 ⟨hD, h.nd⟩, fun E hE => by
  rcases List.mem_cons.1 hE with rfl | hE
  ·exact ⟨hK, hd⟩
  ·exact h.ds E hE⟩
def Inw (W : World) (R : Nat → Prop) (q : Nat) (v : Value) (J : (Nat → Prop) → List Pr → World → Prop) (K : Nat → Prop) (Ds : List Nat) (pre : List Pr) (sB : Nat) (K' : Nat → Prop) (pre' : List Pr) (wr : World) : Prop :=
 Wlk W R q v J (fun k => K k ∨ K' k) Ds (pre ++ pre') wr ∧ (∀ k, K' k → sB ≤ k) ∧ sB ≤ wr.heap.size
theorem Inw.clos {sB : Nat} (hJ : Clos J) (_hR : ∀ k, R k → k < W.heap.size) (hs : W.heap.size ≤ sB) (hK : ∀ k, K k → k < sB) (hq : K q) (hD : ∀ D ∈ Ds, K D) : Clos (Inw W R q v J K Ds pre sB) := by
 intro K1 K2 pre' W1 W2 ⟨h, hlo, hsB⟩ hf hK2
 have nK : ∀ k, K k → ¬ K1 k := fun k hk h1 => by have := hlo k h1; have := hK k hk; omega
 refine ⟨⟨hJ _ _ _ _ _ h.j (hf.mono (fun k _ e => .inr e)) (fun k hk => ?_), fun k hk => ?_, .inl hq, (hf.cell q 0 (h.lo q h.qk).2 (nK q hq)).trans h.cq, h.keep.trans hf (fun k _ e => .inr (Nat.le_trans hs (hlo k e))), h.nd,
  fun D hD' => ⟨.inl (hD D hD'), hf.obj (h.ds D hD').2 (fun _ e => nK D (hD D hD') e)⟩⟩, fun k hk => ?_, Nat.le_trans hsB hf.size⟩
 ·rcases hk with hk | hk
  ·exact .inl (.inl hk)
  ·exact (hK2 k hk).imp .inr id
 ·rcases hk with hk | hk
  ·have := h.lo k (.inl hk); have := hf.size; omega
  ·rcases hK2 k hk with h1 | h1
   ·have := h.lo k (.inr h1); have := hf.size; omega
   ·have := h.keep.size; omega
 ·rcases hK2 k hk with h1 | h1
  ·exact hlo k h1
  ·omega
end
end Go.Proofs.YtecnijnmgdfdhaaGreat

namespace Go.Proofs.YtecnijnmgdfdhaaGreat
open Go.RowKit Tr
open Ky (less)
attribute [local go_sem] Oper.semAt_some

set_option maxHeartbeats 400000 in
theorem walkN_any (b : Nat) (w : World) :
  Calls Tryz.prog 114 #[ptrV b] w fun e V => e = .returned (.func (.func 142) #[] #[.pointer (some ⟨w.heap.size, 0, none⟩)]) ∧ w.alloc (.cells #[ptrV b] 152) = V := by
 go_enter Tryz.func114, Tryz.ntmps114
 go_wp2
 go_ret
 exact ⟨rfl, rfl⟩
def prE (p : Pr) : Array Value := #[.string ⟨p.1.toArray⟩, .string ⟨p.2.toArray⟩]
def wFrame (l : Nat) (Bn q b : Nat) (pa : Option Addr) (n pc i : Nat) (Ds : List Nat) (a : Act) : Prop :=
 ∃ u3 u4 u5 u13 u14 u15 u16 u17 u18 u19 u20 u21 u22 u23 u24 u25 u26 u27 u28 u29 u30 u31 u32 u33 u34 u35 u36 u37 u38 u39 u40 u41 u42 u43 u44 u45 u46 u47 u48 u49 u50 u51 u52 u53 u54 u55 u56 u57 u58 u59 u60 u61 : Value, a = { tmps := #[(.func (.yield l) #[] #[]), (.pointer (some ⟨Bn, 0, none⟩)), (.pointer (some ⟨q, 0, none⟩)), u3, u4, u5, (ptrV b), (ptrV b), (.pointer (some ⟨b, 0, none⟩)), (.slice pa n pc), (.int .i64 n), (.int .i64 (n + 1 : Nat)), (.int .i64 i), u13, u14, u15, u16, u17, u18, u19, u20, u21, u22, u23, u24, u25, u26, u27, u28, u29, u30, u31, u32, u33, u34, u35, u36, u37, u38, u39, u40, u41, u42, u43, u44, u45, u46, u47, u48, u49, u50, u51, u52, u53, u54, u55, u56, u57, u58, u59, u60, u61], defers := Ds.map mark }
set_option maxHeartbeats 4000000 in
set_option maxRecDepth 100000 in
theorem walk_leaf (o : Nat) (g : G) (Bn : Nat) (R : Nat → Prop) (W : World) (hk : Tr.Kids o 0 g) (hN : Nd W 0 g) (hlen : (flat 0 g).length ≤ 900000) (hBn : W.cell? ⟨Bn, 0, none⟩ = some (ptrV g.b)) (hf : ∀ k x, foot 0 g k x → R k) (hRB : R Bn) (hR : ∀ k, R k → k < W.heap.size) :
  Tells False Tryz.prog 142 #[.pointer (some ⟨Bn, 0, none⟩)] prE (flat 0 g) R (fun _ => False) W := by
 intro l J Jx hst hJ hJx hY h0
 have hst := hst.resolve_left (fun h => h)
 refine calls_marks Tryz.func142 rfl ?_
 simp only [Tryz.ntmps142, List.size_toArray, List.length_cons, List.length_nil, Nat.reduceAdd, Nat.reduceSub, Array.replicate_succ, Array.replicate_zero, List.push_toArray, List.append_toArray, List.nil_append, List.cons_append]
 obtain ⟨pa, pc, ka, kc, ht⟩ := hN.top
 obtain ⟨q, hq⟩ : ∃ q, W.heap.size = q := ⟨_, rfl⟩
 have hb0 := al1 W (.cells #[.func (.yield l) #[] #[]] 199)
 have y0 := old_cell hBn hb0
 have y1 := old_cell ht.c0 hb0
 have hW0 : Wlk W R q (.func (.yield l) #[] #[]) J (fun k => k = q) [] (told 0 g 0) (W.alloc (.cells #[.func (.yield l) #[] #[]] 199)) := by
  rw [told_zero]
  refine ⟨hJ _ _ _ _ _ h0 (Fr.ofBelow hb0 _) (fun k hk => .inr ?_), fun k hk => ?_, rfl, ?_, Fr.ofBelow hb0 _, List.nodup_nil, fun D hD => by cases hD⟩
  ·subst hk; simp; omega
  ·subst hk; simp; omega
  ·rw [← hq]; simp
 obtain ⟨V, hV⟩ : ∃ V, W.alloc (.cells #[.func (.yield l) #[] #[]] 199) = V := ⟨_, rfl⟩
 rw [hV] at y0 y1 hW0
 obtain ⟨n, hn⟩ : ∃ n, g.ps.length = n := ⟨_, rfl⟩
 rw [hn] at y1
 have hn2 : n ≤ 900000 := by rw [← hn]; exact hlen
 have H0 := Lib.hid hW0
 have HY := Lib.hid hY
 have HD := Lib.hid (And.intro hk (And.intro hN (And.intro hf (And.intro hRB (And.intro hR (And.intro ht (And.intro hBn hn)))))))
 have HS := Lib.hid (And.intro hst (And.intro hJ hJx))
 clear hst hJ hJx hY h0 hk hN hlen hBn hf hRB hR ht hb0 hW0 hn
 gi_wp2
 refine wpIn_wide.2 (wp_loop_ghost_k (fun N a wr => ∃ (i : Nat) (K : Nat → Prop) (Ds : List Nat), i + N = n + 1 ∧ wFrame l Bn q g.b pa n pc i Ds a ∧ Hid (Wlk W R q (.func (.yield l) #[] #[]) J K Ds (told 0 g i) wr)) (n + 1) ⟨0, _, [], by omega, ⟨_, _, _, _, _, _, _, _, _, _, _, _, _, _, _, _, _, _, _, _, _, _, _, _, _, _, _, _, _, _, _, _, _, _, _, _, _, _, _, _, _, _, _, _, _, _, _, _, _, _, _, _, rfl⟩, H0⟩ ?round)
 case round =>
  intro N a wr hrel J' K' hJ' hK'
  refine (wpIn_wide (n := 3)).1 ?_
  obtain ⟨i, K, Ds, hi, ⟨u3, u4, u5, u13, u14, u15, u16, u17, u18, u19, u20, u21, u22, u23, u24, u25, u26, u27, u28, u29, u30, u31, u32, u33, u34, u35, u36, u37, u38, u39, u40, u41, u42, u43, u44, u45, u46, u47, u48, u49, u50, u51, u52, u53, u54, u55, u56, u57, u58, u59, u60, u61, rfl⟩, HB⟩ := hrel
  have hR := HD.out.2.2.2.2.1
  have b0 := HB.out.cellR hR HD.out.2.2.2.1 HD.out.2.2.2.2.2.2.1
  have htw := HB.out.top HD.out.2.2.2.2.2.1 (fun k x h => HD.out.2.2.1 k x h)
  have b1 := htw.c0
  have b2 := htw.c1
  have b3 := HB.out.cq
  have hks : g.ks = [] := HD.out.1
  rw [HD.out.2.2.2.2.2.2.2] at b1
  rw [hks] at b2
  have HT := Lib.hid htw
  clear htw hR hks
  cases N with
  | zero =>
   obtain rfl : i = n + 1 := by omega
   clear hi
   gi_wp2
   refine leave_marks Ds wr HB.out.nd (fun D hD => (HB.out.ds D hD).2) (fun W' hf => ?_)
   refine ⟨_, results_none rfl _ _ _, ⟨_, rfl⟩, K, fun k h => h.elim, .inl ?_⟩
   have hj := HS.out.2.1 _ K _ _ _ HB.out.j (hf.mono (fun k _ h => (HB.out.ds k h).1)) (fun k h => .inl h)
   rwa [told_leaf_end (by rw [HD.out.2.2.2.2.2.2.2]; omega)] at hj
  | succ N =>
   have hin : i ≤ n := by omega
   have HLF := Lib.hid (fun w hc => leaf_raw g.b ka 0 kc true rfl (by omega) w hc)
   have g0 : (i : Int) < ((n + 1 : Nat) : Int) := by omega
   have g2 : (i : Int) < (n : Int) + 1 := by omega
   by_cases hlt : i < n
   ·obtain ⟨p, hp⟩ : ∃ p, g.ps[i]? = some p := ⟨_, List.getElem?_eq_getElem (by rw [HD.out.2.2.2.2.2.2.2]; exact hlt)⟩
    obtain ⟨pb, po, rfl, p1, p2, _⟩ := HT.out.pair hp
    have g1 : (i : Int) < (n : Int) := by omega
    have g3 : (0 : Int) ≤ (i : Int) := by omega
    obtain ⟨ht1, post, ht2⟩ := told_leaf hp
    have HY2 := Lib.hid (fun W1 (hj : J K (told 0 g i) W1) => HY.out K (told 0 g i) p post W1 ht2 (fun k h => h.elim) hj)
    have HP := Lib.hid ht1
    clear hp ht1 ht2
    gi_wp2_with (refine ⟨trivial, ?_⟩; gi_at_call 100; refine (callsIn_wide.2 (HLF.out _ b2)).mono ?_; rintro e V2 ⟨rfl, rfl⟩)
    obtain ⟨fn, tm, as_, bd, hy, hRd⟩ := HY2.out wr.drew (HB.out.drew HS.out.2.1).j 2
    simp only [prE] at hy
    have HRd : Hid (RoundIn Fence.wide 2 Tryz.prog l fn tm as_ bd wr.drew fun e W' => e = .returned (.bool true) ∧ Hid (Wlk W R q (.func (.yield l) #[] #[]) J K Ds (told 0 g i ++ [p]) W')) := Lib.hid (hRd.mono (fun e W' ⟨hfr, hc⟩ => by
     rcases hc with ⟨rfl, hj⟩ | ⟨_, hjx⟩
     ·exact ⟨rfl, Lib.hid ((HB.out.drew HS.out.2.1).round hj hfr)⟩
     ·exact absurd hjx (HS.out.1 _ _ _)))
    clear hRd
    refine wpIn_region_still_tail 25 (fun _ => trivial) rfl (fun _ _ _ _ h => calls_wide h) (by kernel_rfl) (by kernel_rfl) (by kernel_rfl) ?_
    simp only [List.take_succ_cons, List.take_zero, List.drop_succ_cons, List.drop_zero]
    repeat ((with_reducible refine wpStill_step (fun K hK => ?_)); go_simp; (with_reducible refine hK _ ?_); clear hK K)
    with_reducible refine wpStill_nil ?_
    gi_wp2_with (refine HRd.out.mono ?_; rintro e W2 ⟨rfl, HW2⟩)
    have e1 : (i : Int) + 1 = ((i + 1 : Nat) : Int) := by omega
    have e2 : (n : Int) + 1 = ((n + 1 : Nat) : Int) := by omega
    rw [e1, e2]
    refine Handed.intro N (by omega) (hJ' _ _ _ ⟨i + 1, K, Ds, by omega, ⟨_, _, _, _, _, _, _, _, _, _, _, _, _, _, _, _, _, _, _, _, _, _, _, _, _, _, _, _, _, _, _, _, _, _, _, _, _, _, _, _, _, _, _, _, _, _, _, _, _, _, _, _, rfl⟩, Lib.hid ?_⟩)
    have := HW2.out
    rwa [← HP.out] at this
   ·have HI : Hid (i = n) := Lib.hid (by omega)
    have HJ := Lib.hid (And.intro hin hi)
    have hd : decide ((i : Int) < (n : Int)) = false := by simp; omega
    have g1 : ¬ (i : Int) < (n : Int) := by omega
    have HE : Hid (told 0 g (i + 1) = told 0 g i) := Lib.hid (by rw [told_leaf_end (by rw [HD.out.2.2.2.2.2.2.2]; omega), told_leaf_end (by rw [HD.out.2.2.2.2.2.2.2]; omega)])
    gi_wp2_with (refine ⟨trivial, ?_⟩; gi_at_call 100; refine (callsIn_wide.2 (HLF.out _ b2)).mono ?_; rintro e V2 ⟨rfl, rfl⟩)
    refine wpIn_region_still_tail 25 (fun _ => trivial) rfl (fun _ _ _ _ h => calls_wide h) (by kernel_rfl) (by kernel_rfl) (by kernel_rfl) ?_
    simp only [List.take_succ_cons, List.take_zero, List.drop_succ_cons, List.drop_zero]
    iterate 7 ((with_reducible refine wpStill_step (fun K hK => ?_)); go_simp; (with_reducible refine hK _ ?_); clear hK K)
    clear g0 g1 g2 hd hin hi
    repeat ((with_reducible refine wpStill_step (fun K hK => ?_)); go_simp; (with_reducible refine hK _ ?_); clear hK K)
    with_reducible refine wpStill_nil ?_
    (with_reducible refine wpListIn_pass wide_all ?_ ?_)
    ·go_simp
    (with_reducible refine wpListIn_pass wide_all ?_ ?_)
    ·go_simp
    simp only [Act.put, List.setIfInBounds_toArray, List.set_cons_zero, List.set_cons_succ]
    obtain ⟨hin, hi⟩ := HJ.out
    gi_wp2
    have e1 : (i : Int) + 1 = ((i + 1 : Nat) : Int) := by omega
    have e2 : (n : Int) + 1 = ((n + 1 : Nat) : Int) := by omega
    rw [e1, e2]
    refine Handed.intro N (by omega) (hJ' _ _ _ ⟨i + 1, K, Ds, by omega, ⟨_, _, _, _, _, _, _, _, _, _, _, _, _, _, _, _, _, _, _, _, _, _, _, _, _, _, _, _, _, _, _, _, _, _, _, _, _, _, _, _, _, _, _, _, _, _, _, _, _, _, _, _, rfl⟩, Lib.hid ?_⟩)
    rw [HE.out]
    exact HB.out.drew HS.out.2.1
end Go.Proofs.YtecnijnmgdfdhaaGreat

namespace Go.Proofs.YtecnijnmgdfdhaaGreat
open Go.RowKit Tr
open Ky (less)
attribute [local go_sem] Oper.semAt_some
set_option maxHeartbeats 4000000 in
set_option maxRecDepth 100000 in
theorem walk_kids (o h : Nat) (g : G) (Bn : Nat) (R : Nat → Prop) (W : World) (hk : Tr.Kids o (h + 1) g) (hN : Nd W (h + 1) g) (hlen : (flat (h + 1) g).length ≤ 900000) (hBn : W.cell? ⟨Bn, 0, none⟩ = some (ptrV g.b)) (hf : ∀ k x, foot (h + 1) g k x → R k) (hRB : R Bn) (hR : ∀ k, R k → k < W.heap.size)
  (IH : ∀ (g : G) (Bn : Nat) (R : Nat → Prop) (W : World), Tr.Kids o h g → Nd W h g → (flat h g).length ≤ 900000 → W.cell? ⟨Bn, 0, none⟩ = some (ptrV g.b) → (∀ k x, foot h g k x → R k) → R Bn → (∀ k, R k → k < W.heap.size) →
   Tells False Tryz.prog 142 #[.pointer (some ⟨Bn, 0, none⟩)] prE (flat h g) R (fun _ => False) W) :
  Tells False Tryz.prog 142 #[.pointer (some ⟨Bn, 0, none⟩)] prE (flat (h + 1) g) R (fun _ => False) W := by
 intro l J Jx hst hJ hJx hY h0
 have hst := hst.resolve_left (fun h => h)
 refine calls_marks Tryz.func142 rfl ?_
 simp only [Tryz.ntmps142, List.size_toArray, List.length_cons, List.length_nil, Nat.reduceAdd, Nat.reduceSub, Array.replicate_succ, Array.replicate_zero, List.push_toArray, List.append_toArray, List.nil_append, List.cons_append]
 obtain ⟨pa, pc, ka, kc, ht⟩ := hN.top
 obtain ⟨q, hq⟩ : ∃ q, W.heap.size = q := ⟨_, rfl⟩
 have hb0 := al1 W (.cells #[.func (.yield l) #[] #[]] 199)
 have y0 := old_cell hBn hb0
 have y1 := old_cell ht.c0 hb0
 have hW0 : Wlk W R q (.func (.yield l) #[] #[]) J (fun k => k = q) [] (told (h + 1) g 0) (W.alloc (.cells #[.func (.yield l) #[] #[]] 199)) := by
  rw [told_zero]
  refine ⟨hJ _ _ _ _ _ h0 (Fr.ofBelow hb0 _) (fun k hk => .inr ?_), fun k hk => ?_, rfl, ?_, Fr.ofBelow hb0 _, List.nodup_nil, fun D hD => by cases hD⟩
  ·subst hk; simp; omega
  ·subst hk; simp; omega
  ·rw [← hq]; simp
 obtain ⟨V, hV⟩ : ∃ V, W.alloc (.cells #[.func (.yield l) #[] #[]] 199) = V := ⟨_, rfl⟩
 rw [hV] at y0 y1 hW0
 obtain ⟨n, hn⟩ : ∃ n, g.ps.length = n := ⟨_, rfl⟩
 rw [hn] at y1
 have hkn : g.ks.length = n + 1 := by rw [← hn]; exact hk.1
 have hn2 : n ≤ 900000 := by have := flat_ge hk; omega
 have H0 := Lib.hid hW0
 have HY := Lib.hid hY
 have HK : Hid (∀ k ∈ g.ks, Tr.Kids o h k ∧ Nd W h k ∧ (∀ b x, foot h k b x → R b) ∧ (flat h k).length ≤ 900000) := Lib.hid (fun k hm => ⟨(hk.2 k hm).1, (hN.2.1 k hm).1, fun b x hb => hf b x (kid_foot hm b x hb), by
  have h1 := flat_sub hk
  have h2 : (flat h k).length ≤ (g.ks.map fun k => (flat h k).length).sum := le_sum (List.mem_map.2 ⟨k, hm, rfl⟩)
  omega⟩)
 have HD := Lib.hid (And.intro hk (And.intro hkn (And.intro (fun k x hx => hf k x (topF_foot (h + 1) g k x hx)) (And.intro hRB (And.intro hR (And.intro ht (And.intro hBn hn)))))))
 have HS := Lib.hid (And.intro hst (And.intro hJ hJx))
 clear hst hJ hJx hY h0 hk hN hlen hBn hf hRB hR ht hb0 hW0 hn hkn
 gi_wp2
 refine wpIn_wide.2 (wp_loop_ghost_k (fun N a wr => ∃ (i : Nat) (K : Nat → Prop) (Ds : List Nat), i + N = n + 1 ∧ wFrame l Bn q g.b pa n pc i Ds a ∧ Hid (Wlk W R q (.func (.yield l) #[] #[]) J K Ds (told (h + 1) g i) wr)) (n + 1) ⟨0, _, [], by omega, ⟨_, _, _, _, _, _, _, _, _, _, _, _, _, _, _, _, _, _, _, _, _, _, _, _, _, _, _, _, _, _, _, _, _, _, _, _, _, _, _, _, _, _, _, _, _, _, _, _, _, _, _, _, rfl⟩, H0⟩ ?round)
 case round =>
  intro N a wr hrel J' K' hJ' hK'
  refine (wpIn_wide (n := 3)).1 ?_
  obtain ⟨i, K, Ds, hi, ⟨u3, u4, u5, u13, u14, u15, u16, u17, u18, u19, u20, u21, u22, u23, u24, u25, u26, u27, u28, u29, u30, u31, u32, u33, u34, u35, u36, u37, u38, u39, u40, u41, u42, u43, u44, u45, u46, u47, u48, u49, u50, u51, u52, u53, u54, u55, u56, u57, u58, u59, u60, u61, rfl⟩, HB⟩ := hrel
  have hR := HD.out.2.2.2.2.1
  have b0 := HB.out.cellR hR HD.out.2.2.2.1 HD.out.2.2.2.2.2.2.1
  have htw := HB.out.top HD.out.2.2.2.2.2.1 (fun k x h => HD.out.2.2.1 k x h)
  have b1 := htw.c0
  have b2 := htw.c1
  have b3 := HB.out.cq
  rw [HD.out.2.2.2.2.2.2.2] at b1
  rw [HD.out.2.1] at b2
  have HT := Lib.hid htw
  clear htw hR
  cases N with
  | zero =>
   obtain rfl : i = n + 1 := by omega
   clear hi
   gi_wp2
   refine leave_marks Ds wr HB.out.nd (fun D hD => (HB.out.ds D hD).2) (fun W' hf => ?_)
   refine ⟨_, results_none rfl _ _ _, ⟨_, rfl⟩, K, fun k h => h.elim, .inl ?_⟩
   have hj := HS.out.2.1 _ K _ _ _ HB.out.j (hf.mono (fun k _ h => (HB.out.ds k h).1)) (fun k h => .inl h)
   rwa [told_end (by rw [HD.out.2.2.2.2.2.2.2]; omega)] at hj
  | succ N =>
   have hin : i ≤ n := by omega
   have HLF := Lib.hid (fun w hc => leaf_raw g.b ka (n + 1) kc false (by simp) (by omega) w hc)
   have g0 : (i : Int) < ((n + 1 : Nat) : Int) := by omega
   have g2 : (i : Int) < (n : Int) + 1 := by omega
   have g3 : (0 : Int) ≤ (i : Int) := by omega
   obtain ⟨kd, hkd⟩ : ∃ k, g.ks[i]? = some k := ⟨_, List.getElem?_eq_getElem (by rw [HD.out.2.1]; omega)⟩
   obtain ⟨kb, ko, rfl, k1, _⟩ := HT.out.kid hkd
   have hkm := HK.out kd (List.mem_of_getElem? hkd)
   have HKd := Lib.hid (And.intro hkd hkm)
   have HWk := Lib.hid (fun w => walkN_any kd.b w)
   clear hkd hkm
   gi_wp2_with (first
    | (refine ⟨trivial, ?_⟩; gi_at_call 100; refine (callsIn_wide.2 (HLF.out _ b2)).mono ?_; rintro e V2 ⟨rfl, rfl⟩)
    | (refine ⟨trivial, ?_⟩; gi_at_call 114; refine (callsIn_wide.2 (HWk.out _)).mono ?_; rintro e V3 ⟨rfl, hV3⟩))
   have hJ := HS.out.2.1
   have hb3 : Below wr.heap.size wr V3 := by rw [← hV3]; exact al1 wr _
   have hs3 : V3.heap.size = wr.heap.size + 1 := by rw [← hV3]; simp
   have hc3 : V3.cell? ⟨wr.heap.size, 0, none⟩ = some (ptrV kd.b) := by rw [← hV3]; simp
   have h3 := HB.out.own hJ HD.out.2.2.2.2.1 hb3
   obtain ⟨K2, hK2⟩ : ∃ K2 : Nat → Prop, K2 = fun k => K k ∨ (wr.heap.size ≤ k ∧ k < V3.heap.size) := ⟨_, rfl⟩
   rw [← hK2] at h3
   have hKs : K2 wr.heap.size := by rw [hK2]; exact .inr ⟨Nat.le_refl _, by omega⟩
   have hWr : W.heap.size ≤ wr.heap.size := HB.out.keep.size
   have hNd : Nd V3 h kd := HKd.out.2.2.1.fr h3.keep (fun b x h1 h2 => h2 (HKd.out.2.2.2.1 b x h1))
   have HSp := Lib.hid (split_kid HD.out.1 HKd.out.1 (by rw [HD.out.2.2.2.2.2.2.2]; exact hin))
   have HM := Lib.hid (And.intro h3 hKs)
   have HU := Lib.hid (And.intro hin hi)
   clear b0 b1 b2 b3 g0 g2 g3 k1 hV3
   refine wpIn_range_tells (by omega) (gf := 142) (lb := #[.pointer (some ⟨wr.heap.size, 0, none⟩)]) rfl (enters_any Tryz.func142 (by kernel_rfl) rfl) (encs := prE) (stops := False) (xs := flat h kd)
    (R := fun k => (∃ x, foot h kd k x) ∨ k = wr.heap.size) (K0 := fun _ => False) (fun o1 o2 => ?seq) (fun x => rfl) ?rlt (fun k hk => hk.elim)
    (Inw W R q (.func (.yield l) #[] #[]) J K2 Ds (told (h + 1) g i) V3.heap.size) (fun _ _ _ _ => False) (Inw.clos hJ HD.out.2.2.2.2.1 (by omega) (fun k hk => (h3.lo k hk).2) h3.qk (fun D hD => (h3.ds D hD).1))
    (fun _ _ _ _ _ _ h _ _ => h) (.inr (fun _ _ _ _ h => h)) ⟨by rw [List.append_nil]; exact h3.sub hJ (fun k => by simp), fun k hk => hk.elim, Nat.le_refl _⟩
    (fun x => { tmps := #[(.func (.yield l) #[] #[]), (.pointer (some ⟨Bn, 0, none⟩)), (.pointer (some ⟨q, 0, none⟩)), (.int .i64 i), (.string ⟨x.1.toArray⟩), (.string ⟨x.2.toArray⟩), (ptrV g.b), (ptrV g.b), (.pointer (some ⟨g.b, 0, none⟩)), (.slice pa n pc), (.int .i64 n), (.int .i64 ((n : Int) + 1)), (.int .i64 i), (.bool true), (.int .i64 i), (ptrV g.b), (.bool false), (.bool true), (ptrV g.b), (.pointer (some ⟨g.b, 0, none⟩)), (.pointer (some ⟨g.b, 1, none⟩)), (.slice (some ⟨kb, ko, none⟩) ((n + 1 : Nat)) kc), (.int .i64 i), (.pointer (some ⟨kb, ko + i, none⟩)), (ptrV kd.b), (.func (.func 142) #[] #[.pointer (some ⟨wr.heap.size, 0, none⟩)]), (.string ⟨x.1.toArray⟩), (.string ⟨x.2.toArray⟩), u28, u29, u30, u31, u32, u33, u34, u35, u36, u37, u38, u39, u40, u41, u42, u43, u44, u45, u46, u47, u48, u49, u50, u51, u52, u53, u54, u55, u56, u57, u58, u59, u60, u61], defers := [] }) ?assign ?body ?done ?stop
   case seq =>
    have hbo : Below V3.heap.size V3 ((V3.alloc o1).alloc o2) := (al1 V3 o1).trans ((al1 (V3.alloc o1) o2).mono (by simp))
    refine IH kd wr.heap.size _ _ HKd.out.2.1 (hNd.later hbo) HKd.out.2.2.2.2 (old_cell hc3 hbo) (fun k x hx => .inl ⟨x, hx⟩) (.inr rfl) (fun k hk => ?_)
    have hbs := hbo.size
    rcases hk with ⟨x, hx⟩ | rfl
    ·have := hNd.lies k x hx; omega
    ·omega
   case rlt =>
    intro k hk
    rcases hk with ⟨x, hx⟩ | rfl
    ·exact hNd.lies k x hx
    ·omega
   case assign =>
    intro l' x W1 K1 hK1
    simp only [prE]
    gi_wp2
    exact hK1
   case body =>
    rintro l' K' pre x post W1 hx _ hI
    have b5 := hI.1.cq
    obtain ⟨fn, tm, as_, bd, hy, hRd⟩ := HY.out (fun k => K2 k ∨ K' k) (told (h + 1) g i ++ pre) x (post ++ suf h (g.ks.drop (i + 1)) (g.ps.drop i)) W1 (by rw [HSp.out, hx]; simp) (fun k h => h.elim) hI.1.j 2
    simp only [prE] at hy
    have HRd : Hid (∀ m, RoundIn (Fence.wide.inRound l') m Tryz.prog l fn tm as_ bd W1 fun e W' => e = .returned (.bool true) ∧ Hid (Fr (fun k _ => ¬ K' k ∧ ¬ ((∃ x, foot h kd k x) ∨ k = wr.heap.size)) W1 W' ∧ Inw W R q (.func (.yield l) #[] #[]) J K2 Ds (told (h + 1) g i) V3.heap.size K' (pre ++ [x]) W')) := Lib.hid (fun m => (roundIn_any (m' := m) hRd).mono (fun e W' ⟨hfr, hc⟩ => by
     rcases hc with ⟨rfl, hj⟩ | ⟨_, hjx⟩
     ·refine ⟨rfl, Lib.hid ⟨hfr.mono (fun k _ hh => ⟨fun h => hh.1 (.inr h), fun h => ?_⟩), hI.1.round (by rw [← List.append_assoc]; exact hj) hfr, hI.2.1, Nat.le_trans hI.2.2 hfr.size⟩⟩
      rcases h with ⟨y, hy⟩ | rfl
      ·exact hh.2 (HKd.out.2.2.2.1 k y hy)
      ·exact hh.1 (.inl HM.out.2)
     ·exact absurd hjx (HS.out.1 _ _ _)))
    clear hRd hI
    gi_wp2_with (refine (HRd.out _).mono ?_; rintro e W2 ⟨rfl, HW2⟩)
    exact HW2.out
   case stop =>
    intro D c K' pre x post W1 _ h
    exact h.elim
   case done =>
    rintro D K' W1 hI _ hKD hsD hDef
    have hw1 : Wlk W R q (.func (.yield l) #[] #[]) J (fun k => K2 k ∨ K' k) (D :: Ds) (told (h + 1) g i ++ flat h kd) W1 := hI.1.cons (.inr hKD) (fun hm => by have := (HM.out.1.lo D (HM.out.1.ds D hm).1).2; omega) hDef
    have hR := HD.out.2.2.2.2.1
    have b0 := hw1.cellR hR HD.out.2.2.2.1 HD.out.2.2.2.2.2.2.1
    have htw := hw1.top HD.out.2.2.2.2.2.1 (fun k x h => HD.out.2.2.1 k x h)
    have b1 := htw.c0
    have b3 := hw1.cq
    rw [HD.out.2.2.2.2.2.2.2] at b1
    have HT2 := Lib.hid htw
    have HB2 := Lib.hid hw1
    clear htw hR hw1 hI hNd h3 hKs hWr hc3 hs3 hb3 hJ
    by_cases hlt : i < n
    ·obtain ⟨p, hp⟩ : ∃ p, g.ps[i]? = some p := ⟨_, List.getElem?_eq_getElem (by rw [HD.out.2.2.2.2.2.2.2]; exact hlt)⟩
     obtain ⟨pb, po, rfl, p1, p2, _⟩ := HT2.out.pair hp
     have g1 : (i : Int) < (n : Int) := by omega
     have g3 : (0 : Int) ≤ (i : Int) := by omega
     obtain ⟨ht1, post, ht2⟩ := told_kid HD.out.1 HKd.out.1 hp
     have HY2 := Lib.hid (fun W1 K (hj : J K (told (h + 1) g i ++ flat h kd) W1) => HY.out K (told (h + 1) g i ++ flat h kd) p post W1 ht2 (fun k h => h.elim) hj)
     have HP := Lib.hid ht1
     clear hp ht1 ht2
     obtain ⟨fn, tm, as_, bd, hy, hRd⟩ := HY2.out W1.drew _ (HB2.out.drew HS.out.2.1).j 2
     simp only [prE] at hy
     have HRd : Hid (RoundIn Fence.wide 2 Tryz.prog l fn tm as_ bd W1.drew fun e W' => e = .returned (.bool true) ∧ Hid (Wlk W R q (.func (.yield l) #[] #[]) J (fun k => K2 k ∨ K' k) (D :: Ds) (told (h + 1) g i ++ flat h kd ++ [p]) W')) := Lib.hid (hRd.mono (fun e W' ⟨hfr, hc⟩ => by
      rcases hc with ⟨rfl, hj⟩ | ⟨_, hjx⟩
      ·exact ⟨rfl, Lib.hid ((HB2.out.drew HS.out.2.1).round hj hfr)⟩
      ·exact absurd hjx (HS.out.1 _ _ _)))
     clear hRd
     gi_wp2
     refine wpIn_region_still_tail 25 (fun _ => trivial) rfl (fun _ _ _ _ h => calls_wide h) (by kernel_rfl) (by kernel_rfl) (by kernel_rfl) ?_
     simp only [List.take_succ_cons, List.take_zero, List.drop_succ_cons, List.drop_zero]
     repeat ((with_reducible refine wpStill_step (fun K hK => ?_)); go_simp; (with_reducible refine hK _ ?_); clear hK K)
     with_reducible refine wpStill_nil ?_
     gi_wp2_with (refine HRd.out.mono ?_; rintro e W2 ⟨rfl, HW2⟩)
     have e1 : (i : Int) + 1 = ((i + 1 : Nat) : Int) := by omega
     have e2 : (n : Int) + 1 = ((n + 1 : Nat) : Int) := by omega
     rw [e1, e2]
     refine Handed.intro N (by omega) (hJ' _ _ _ ⟨i + 1, fun k => K2 k ∨ K' k, D :: Ds, by omega, ⟨_, _, _, _, _, _, _, _, _, _, _, _, _, _, _, _, _, _, _, _, _, _, _, _, _, _, _, _, _, _, _, _, _, _, _, _, _, _, _, _, _, _, _, _, _, _, _, _, _, _, _, _, rfl⟩, Lib.hid ?_⟩)
     have := HW2.out
     rwa [← HP.out] at this
    ·have HI : Hid (i = n) := Lib.hid (by omega)
     have hd : decide ((i : Int) < (n : Int)) = false := by simp; omega
     have g1 : ¬ (i : Int) < (n : Int) := by omega
     have HE : Hid (told (h + 1) g i ++ flat h kd = told (h + 1) g (i + 1)) := Lib.hid (by
      have e := HD.out.2.2.2.2.2.2.2
      have e1 := HI.out
      rw [told_end (i := i + 1) (by omega)]
      have e2 := HKd.out.1
      rw [e1, ← e] at e2 ⊢
      exact (told_last HD.out.1 e2).symm)
     gi_wp2
     refine wpIn_region_still_tail 25 (fun _ => trivial) rfl (fun _ _ _ _ h => calls_wide h) (by kernel_rfl) (by kernel_rfl) (by kernel_rfl) ?_
     simp only [List.take_succ_cons, List.take_zero, List.drop_succ_cons, List.drop_zero]
     iterate 7 ((with_reducible refine wpStill_step (fun K hK => ?_)); go_simp; (with_reducible refine hK _ ?_); clear hK K)
     clear g1 hd hin hi
     repeat ((with_reducible refine wpStill_step (fun K hK => ?_)); go_simp; (with_reducible refine hK _ ?_); clear hK K)
     with_reducible refine wpStill_nil ?_
     (with_reducible refine wpListIn_pass wide_all ?_ ?_)
     ·go_simp
     (with_reducible refine wpListIn_pass wide_all ?_ ?_)
     ·go_simp
     simp only [Act.put, List.setIfInBounds_toArray, List.set_cons_zero, List.set_cons_succ]
     obtain ⟨hin, hi⟩ := HU.out
     gi_wp2
     have e1 : (i : Int) + 1 = ((i + 1 : Nat) : Int) := by omega
     have e2 : (n : Int) + 1 = ((n + 1 : Nat) : Int) := by omega
     rw [e1, e2]
     refine Handed.intro N (by omega) (hJ' _ _ _ ⟨i + 1, fun k => K2 k ∨ K' k, D :: Ds, by omega, ⟨_, _, _, _, _, _, _, _, _, _, _, _, _, _, _, _, _, _, _, _, _, _, _, _, _, _, _, _, _, _, _, _, _, _, _, _, _, _, _, _, _, _, _, _, _, _, _, _, _, _, _, _, rfl⟩, Lib.hid ?_⟩)
     rw [← HE.out]
     exact HB2.out.drew HS.out.2.1
theorem walk_tells (o : Nat) : ∀ (h : Nat) (g : G) (Bn : Nat) (R : Nat → Prop) (W : World), Tr.Kids o h g → Nd W h g → (flat h g).length ≤ 900000 → W.cell? ⟨Bn, 0, none⟩ = some (ptrV g.b) → (∀ k x, foot h g k x → R k) → R Bn → (∀ k, R k → k < W.heap.size) →
  Tells False Tryz.prog 142 #[.pointer (some ⟨Bn, 0, none⟩)] prE (flat h g) R (fun _ => False) W
 | 0, g, Bn, R, W, hk, hN, hl, hB, hf, hRB, hR => walk_leaf o g Bn R W hk hN hl hB hf hRB hR
 | h + 1, g, Bn, R, W, hk, hN, hl, hB, hf, hRB, hR => walk_kids o h g Bn R W hk hN hl hB hf hRB hR (fun g Bn R W => walk_tells o h g Bn R W)
end Go.Proofs.YtecnijnmgdfdhaaGreat

namespace Go.Proofs.YtecnijnmgdfdhaaGreat
open Go.RowKit
theorem Coll.after {W0 W1 Wa W2 : World} {Bx : Nat} {u : Value} {F : Foot} {K : Nat → Prop} (hB : Bx < W0.heap.size) (h3 : ∀ k o, F k o → W0.heap.size ≤ k ∧ ¬ K k) (hc : W1.cell? ⟨Bx, 0, none⟩ = some u) (hf : W1.frozen? ⟨Bx, 0, none⟩ = false) (hb : Below W1.heap.size W1 Wa) (k2 : Fr F Wa W2) :
  W2.cell? ⟨Bx, 0, none⟩ = some u ∧ W2.frozen? ⟨Bx, 0, none⟩ = false := by
 have nF : ∀ o, ¬ F Bx o := fun o h => by have := (h3 Bx o h).1; omega
 have hlt := block_of_cell hc
 have hs := hb.size
 exact ⟨(k2.cell Bx 0 (Nat.lt_of_lt_of_le hlt hs) (nF 0)).trans (old_cell hc hb), (k2.froz Bx 0 (Nat.lt_of_lt_of_le hlt hs) (nF 0)).trans ((hb.frozen (p := ⟨Bx, 0, none⟩) hlt).trans hf)⟩
theorem eql_func_nil {P : Program} {t : TypeId} {ps rs : Array TypeId} {vr : Bool} (ht : P.underlying t = some (.func ps rs vr)) (f : Fn) (x y : Array Value) (w : World) : (binOp .eql t (.func f x y) .nilFunc).run P w = .ok (.bool false) w := by
 have h : ∀ d : Nat, (Op.equalIn (d + 1) t (.func f x y) .nilFunc).run P w = .ok false w := fun d => by
  simp [Op.equalIn, run_underlying ht]
 simp only [binOp]
 simp [Op.equal, Op.maxDepth, h 9999]
section
variable {α : Type} {W0 : World} {Bx : Nat} {K : Nat → Prop} {pre : List α} {x : α}
def Boxd (f : List α → Value) (W0 : World) (Bx : Nat) (K : Nat → Prop) (pre : List α) (W : World) : Prop :=
 W.cell? ⟨Bx, 0, none⟩ = some (f pre) ∧ W.frozen? ⟨Bx, 0, none⟩ = false ∧ Fr (fun k _ => k = Bx) W0 W ∧ ∀ k, K k → W0.heap.size ≤ k ∧ k < W.heap.size
theorem Boxd.clos {f : List α → Value} (hB : Bx < W0.heap.size) : Clos (Boxd f W0 Bx) := by
 intro K K' pre W W' ⟨h4, h5, h6, h7⟩ hf hK
 have hBK : ¬ K Bx := fun h => by have := (h7 Bx h).1; omega
 have hW := h6.size
 refine ⟨cell_fr hf h4 hBK, (hf.froz Bx 0 (by omega) hBK).trans h5, h6.trans hf (fun b o hb => .inr (h7 b hb).1), fun k hk => ?_⟩
 have := hf.size
 rcases hK k hk with h | h
 ·have := h7 k h; omega
 ·omega
theorem Boxd.start {f : List α → Value} (hc : W0.cell? ⟨Bx, 0, none⟩ = some (f [])) (hf : W0.frozen? ⟨Bx, 0, none⟩ = false) : Boxd f W0 Bx (fun _ => False) [] W0 :=
 ⟨hc, hf, Fr.refl _ _, fun _ h => h.elim⟩
theorem Boxd.step {f : List α → Value} {W1 Wa : World} (hB : Bx < W0.heap.size) (h : Boxd f W0 Bx K pre W1) (hb : Below W1.heap.size W1 Wa) (R : Nat → Prop) (hR : ∀ k, R k → k ≠ Bx) :
  Fr (fun k _ => ¬ K k ∧ ¬ R k) W1 (Wa.setCell ⟨Bx, 0, none⟩ (f (pre ++ [x]))) ∧ Boxd f W0 Bx K (pre ++ [x]) (Wa.setCell ⟨Bx, 0, none⟩ (f (pre ++ [x]))) := by
 obtain ⟨h4, h5, h6, h7⟩ := h
 have hBK : ¬ K Bx := fun h => by have := (h7 Bx h).1; omega
 have hW := h6.size
 have hset := fr_own' Wa Bx (f (pre ++ [x]))
 have f1 := Fr.ofBelow hb (noCells)
 refine ⟨(f1.mono (fun _ _ h => h.elim)).trans hset (fun b o h => .inl ?_), World.cell?_setCell_same' _ _ _ (by rw [old_cell h4 hb]; rfl), by rw [World.frozen?_setCell]; exact (hb.frozen (p := ⟨Bx, 0, none⟩) (show Bx < W1.heap.size by omega)).trans h5, (h6.trans f1 (fun _ _ h => h.elim)).trans hset (fun b o h => .inl h.1), fun k hk => ?_⟩
 ·obtain ⟨rfl, rfl⟩ := h
  exact ⟨hBK, fun hr => hR _ hr rfl⟩
 ·have := h7 k hk; have := hb.size; simp; omega
theorem Boxd.drew {f : List α → Value} {W1 : World} (h : Boxd f W0 Bx K pre W1) : Boxd f W0 Bx K pre W1.drew := ⟨h.1, h.2.1, h.2.2.1.drew, h.2.2.2⟩
end
section
variable {α : Type} {size : Nat} {V : List α → List Value} {W0 W1 W2 : World} {Bx : Nat} {K0 K : Nat → Prop} {pre : List α} {x : α}
def Coll2 (size : Nat) (V : List α → List Value) (W0 : World) (Bx : Nat) (K0 : Nat → Prop) (K : Nat → Prop) (pre : List α) (W : World) : Prop :=
 ∃ (F : Foot) (a : Option Addr) (c : Nat), Sl W size F a pre.length c (V pre) ∧ Lies W F ∧ (∀ k o, F k o → W0.heap.size ≤ k ∧ ¬ K k) ∧ W.cell? ⟨Bx, 0, none⟩ = some (.slice a pre.length c) ∧ W.frozen? ⟨Bx, 0, none⟩ = false ∧
  Fr (fun k _ => k = Bx ∨ K0 k) W0 W ∧ ∀ k, K k → K0 k ∨ (W0.heap.size ≤ k ∧ k < W.heap.size)
theorem Coll2.clos (hB : Bx < W0.heap.size) (hn : ¬ K0 Bx) (_h0 : ∀ k, K0 k → k < W0.heap.size) : Clos (Coll2 size V W0 Bx K0) := by
 intro K K' pre W W' ⟨F, a, c, h1, h2, h3, h4, h5, h6, h7⟩ hf hK
 have hBK : ¬ K Bx := fun h => (h7 Bx h).elim hn (fun h => by omega)
 have hW := h6.size
 refine ⟨F, a, c, h1.fr hf (fun b o hb hk => (h3 b o hb).2 hk), h2.later hf, fun k o hk => ⟨(h3 k o hk).1, fun hk' => ?_⟩, cell_fr hf h4 hBK, (hf.froz Bx 0 (by omega) hBK).trans h5, h6.trans hf (fun b o hb => (h7 b hb).imp .inr (fun h => h.1)), fun k hk => ?_⟩
 ·rcases hK k hk' with h | h
  ·exact (h3 k o hk).2 h
  ·have := h2 k o hk; omega
 ·have := hf.size
  rcases hK k hk with h | h
  ·rcases h7 k h with h | h
   ·exact .inl h
   ·exact .inr (by omega)
  ·exact .inr (by omega)
theorem Coll2.start (hV : V [] = []) (hc : W0.cell? ⟨Bx, 0, none⟩ = some (.slice none 0 0)) (hf : W0.frozen? ⟨Bx, 0, none⟩ = false) : Coll2 size V W0 Bx K0 K0 [] W0 :=
 ⟨noCells, none, 0, by rw [hV]; exact Sl.none_ W0 size, fun _ _ h => h.elim, fun _ _ h => h.elim, hc, hf, Fr.refl _ _, fun _ h => .inl h⟩
theorem Coll2.after {Wa W2 : World} {u : Value} {F : Foot} (hB : Bx < W0.heap.size) (h3 : ∀ k o, F k o → W0.heap.size ≤ k ∧ ¬ K k) (hc : W1.cell? ⟨Bx, 0, none⟩ = some u) (hf : W1.frozen? ⟨Bx, 0, none⟩ = false) (hb : Below W1.heap.size W1 Wa) (k2 : Fr F Wa W2) :
  W2.cell? ⟨Bx, 0, none⟩ = some u ∧ W2.frozen? ⟨Bx, 0, none⟩ = false := Coll.after hB h3 hc hf hb k2
theorem Coll2.step (hB : Bx < W0.heap.size) (hn : ¬ K0 Bx) (h0 : ∀ k, K0 k → k < W0.heap.size) {F : Foot} {Wa W2 : World} {a' : Option Addr} {c' : Nat} {F' : Foot} (_h2 : Lies W1 F) (h3 : ∀ k o, F k o → W0.heap.size ≤ k ∧ ¬ K k) (h6 : Fr (fun k _ => k = Bx ∨ K0 k) W0 W1) (h7 : ∀ k, K k → K0 k ∨ (W0.heap.size ≤ k ∧ k < W1.heap.size))
  (hb : Below W1.heap.size W1 Wa) (k1 : Sl W2 size F' a' (pre ++ [x]).length c' (V (pre ++ [x]))) (k2 : Fr F Wa W2) (k3 : Grew Wa F F') (k4 : Lies W2 F') (hcB : (W1.cell? ⟨Bx, 0, none⟩).isSome = true) (hfB : W1.frozen? ⟨Bx, 0, none⟩ = false) (R : Nat → Prop) (hR : ∀ k, R k → k < W0.heap.size ∧ k ≠ Bx) :
  Fr (fun k _ => ¬ K k ∧ ¬ R k) W1 (W2.setCell ⟨Bx, 0, none⟩ (.slice a' (pre ++ [x]).length c')) ∧ Coll2 size V W0 Bx K0 K (pre ++ [x]) (W2.setCell ⟨Bx, 0, none⟩ (.slice a' (pre ++ [x]).length c')) := by
 have hBK : ¬ K Bx := fun h => (h7 Bx h).elim hn (fun h => by omega)
 have hW := h6.size
 have hW2 := hb.size
 have hW3 := k2.size
 have nF : ∀ o, ¬ F Bx o := fun o h => by have := (h3 Bx o h).1; omega
 have nF' : ∀ o, ¬ F' Bx o := fun o h => by
  rcases k3 Bx o h with h | h
  ·exact nF o h
  ·omega
 have f1 : Fr (fun k o => F k o) W1 W2 := (Fr.ofBelow hb (fun k o => F k o)).trans k2 (fun _ _ h => .inl h)
 have hset := fr_own' W2 Bx (.slice a' (pre ++ [x]).length c')
 refine ⟨(f1.mono (fun k o h => ⟨(h3 k o h).2, fun hr => by have := hR k hr; have := (h3 k o h).1; omega⟩)).trans hset (fun b o h => ?_), F', a', c', k1.fr hset (fun b o h h' => ?_), k4.later hset, fun k o hk => ?_, ?_, by rw [World.frozen?_setCell]; exact (f1.froz Bx 0 (by omega) (nF 0)).trans hfB, ?_, fun k hk => ?_⟩
 ·obtain ⟨rfl, rfl⟩ := h
  exact .inl ⟨hBK, fun hr => (hR _ hr).2 rfl⟩
 ·obtain ⟨rfl, rfl⟩ := h'
  exact nF' _ h
 ·rcases k3 k o hk with h | h
  ·exact h3 k o h
  ·refine ⟨by omega, fun hk' => ?_⟩
   rcases h7 k hk' with h | h
   ·have := h0 k h; omega
   ·omega
 ·refine World.cell?_setCell_same' _ _ _ ?_
  rw [f1.cell Bx 0 (by omega) (nF 0)]; exact hcB
 ·refine (h6.trans f1 (fun b o h => .inr (h3 b o h).1)).trans hset (fun b o h => .inl (.inl h.1))
 ·rcases h7 k hk with h | h
  ·exact .inl h
  ·exact .inr ⟨h.1, by simp; omega⟩
end
end Go.Proofs.YtecnijnmgdfdhaaGreat

namespace Go.Proofs.YtecnijnmgdfdhaaGreat
open Go.RowKit Tr
open Ky (less)
attribute [local go_sem] Oper.semAt_some

structure Wlo (W : World) (R : Nat → Prop) (J : (Nat → Prop) → List Pr → World → Prop) (K : Nat → Prop) (pre : List Pr) (wr : World) : Prop where
 j : J K pre wr
 lo : ∀ k, K k → W.heap.size ≤ k ∧ k < wr.heap.size
 keep : Fr (fun k _ => ¬ R k) W wr
theorem Wlo.own {W : World} {R : Nat → Prop} {J : (Nat → Prop) → List Pr → World → Prop} {K : Nat → Prop} {pre : List Pr} {wr wr' : World} (h : Wlo W R J K pre wr) (hJ : Clos J) (hb : Below wr.heap.size wr wr') : Wlo W R J (fun k => K k ∨ (wr.heap.size ≤ k ∧ k < wr'.heap.size)) pre wr' := by
 refine ⟨hJ _ _ _ _ _ h.j (Fr.ofBelow hb _) (fun k hk => hk), fun k hk => ?_, h.keep.trans (Fr.ofBelow hb noCells) (fun _ _ h => h.elim)⟩
 rcases hk with hk | hk
 ·have := h.lo k hk; have := hb.size; omega
 ·have := h.keep.size; omega
theorem Wlo.round {W : World} {R : Nat → Prop} {J : (Nat → Prop) → List Pr → World → Prop} {K : Nat → Prop} {pre pre' : List Pr} {wr wr' : World} (h : Wlo W R J K pre wr) (hj : J K pre' wr') (hf : Fr (fun k _ => ¬ K k ∧ ¬ R k) wr wr') : Wlo W R J K pre' wr' :=
 ⟨hj, fun k hk => ⟨(h.lo k hk).1, Nat.lt_of_lt_of_le (h.lo k hk).2 hf.size⟩, h.keep.trans hf (fun _ _ e => .inl e.2)⟩
theorem pairsV_ne {L : List Pr} (h : L ≠ []) : pairsV L ≠ [] := by
 cases L with
 | nil => exact absurd rfl h
 | cons p L => simp [pairsV_cons]
def lFrame (l Bx : Nat) (pa : Option Addr) (n pc i : Nat) (a : Act) : Prop :=
 ∃ u2 u3 u4 u8 u9 u10 u11 u12 u13 u14 u15 u16 u17 u18 : Value, a = { tmps := #[(.func (.yield l) #[] #[]), (.pointer (some ⟨Bx, 0, none⟩)), u2, u3, u4, (.slice pa n pc), (.int .i64 n), (.int .i64 i), u8, u9, u10, u11, u12, u13, u14, u15, u16, u17, u18], defers := [] }
set_option maxHeartbeats 4000000 in
set_option maxRecDepth 100000 in
theorem all1_tells (Bx : Nat) (pa : Option Addr) (pc : Nat) (L : List Pr) (R : Nat → Prop) (W : World) (hn : L.length ≤ 900000) (hB : W.cell? ⟨Bx, 0, none⟩ = some (.slice pa L.length pc)) (hr : Rd W 2 pa L.length pc (pairsV L)) (_hRB : R Bx) (hRa : L ≠ [] → ∀ x, pa = some x → R x.block) (hR : ∀ k, R k → k < W.heap.size) :
  Tells False Tryz.prog 115 #[.pointer (some ⟨Bx, 0, none⟩)] prE L R (fun _ => False) W := by
 intro l J Jx hst hJ hJx hY h0
 have hst := hst.resolve_left (fun h => h)
 refine calls_marks Tryz.func115 rfl ?_
 simp only [Tryz.ntmps115, List.size_toArray, List.length_cons, List.length_nil, Nat.reduceAdd, Nat.reduceSub, Array.replicate_succ, Array.replicate_zero, List.push_toArray, List.append_toArray, List.nil_append, List.cons_append]
 obtain ⟨n, hnn⟩ : ∃ n, L.length = n := ⟨_, rfl⟩
 have HN := Lib.hid hnn
 rw [hnn] at hn hB
 have H0 : Hid (Wlo W R J (fun _ => False) (L.take 0) W) := Lib.hid ⟨by simpa using h0, fun _ h => h.elim, Fr.refl _ _⟩
 have HY := Lib.hid hY
 have HD := Lib.hid (And.intro hr (And.intro hRa hR))
 have HS := Lib.hid (And.intro hst (And.intro hJ hJx))
 clear hst hJ hJx hY h0 hr hRa hR hnn
 gi_wp2
 refine wpIn_wide.2 (wp_loop_ghost_k (fun N a wr => ∃ (i : Nat) (K : Nat → Prop), i + N = n ∧ lFrame l Bx pa n pc i a ∧ Hid (Wlo W R J K (L.take i) wr)) n ⟨0, _, by omega, ⟨_, _, _, _, _, _, _, _, _, _, _, _, _, _, rfl⟩, H0⟩ ?round)
 case round =>
  intro N a wr hrel J' K' hJ' hK'
  refine (wpIn_wide (n := 3)).1 ?_
  obtain ⟨i, K, hi, ⟨u2, u3, u4, u8, u9, u10, u11, u12, u13, u14, u15, u16, u17, u18, rfl⟩, HB⟩ := hrel
  cases N with
  | zero =>
   obtain rfl : i = n := by omega
   clear hi
   gi_wp2
   refine leave_none ⟨_, results_none rfl _ _ _, ⟨_, rfl⟩, K, fun k h => h.elim, .inl ?_⟩
   have := HB.out.j
   rwa [List.take_of_length_le (by rw [HN.out]; exact Nat.le_refl _)] at this
  | succ N =>
   have hlt : i < n := by omega
   obtain ⟨p, hp⟩ : ∃ p, L[i]? = some p := ⟨_, List.getElem?_eq_getElem (by rw [HN.out]; exact hlt)⟩
   have g1 : (i : Int) < (n : Int) := by omega
   have g3 : (0 : Int) ≤ (i : Int) := by omega
   have hLn : L.length = n := HN.out
   obtain ⟨pb, po, rfl, q1⟩ := HD.out.1.addr (by intro e; have := pairsV_len L; rw [e] at this; simp at this; omega)
   obtain ⟨q2, q3⟩ := pairsV_get hp
   have q4 := q1 _ _ q2
   have q5 := q1 _ _ q3
   have hRp := HD.out.2.1 (by rintro rfl; simp at hp) _ rfl
   have p1 : wr.cell? ⟨pb, po + i * 2, none⟩ = some (.string ⟨p.1.toArray⟩) := cell_fr HB.out.keep q4 (fun h => h hRp)
   have p2 : wr.cell? ⟨pb, po + i * 2 + 1, none⟩ = some (.string ⟨p.2.toArray⟩) := cell_fr HB.out.keep (by rw [Nat.add_assoc]; exact q5) (fun h => h hRp)
   have HP := Lib.hid hp
   clear q1 q2 q3 q4 q5 hLn hp
   have hw5 := HB.out.own HS.out.2.1 (al1 wr (.cells #[.string ⟨p.1.toArray⟩, .string ⟨p.2.toArray⟩] 168))
   obtain ⟨K2, hK2⟩ : ∃ K2 : Nat → Prop, K2 = fun k => K k ∨ (wr.heap.size ≤ k ∧ k < (wr.alloc (.cells #[.string ⟨p.1.toArray⟩, .string ⟨p.2.toArray⟩] 168)).heap.size) := ⟨_, rfl⟩
   rw [← hK2] at hw5
   obtain ⟨fn, tm, as_, bd, hy, hRd⟩ := HY.out K2 (L.take i) p (L.drop (i + 1)) _ (by
    have h := HP.out
    obtain ⟨h1, h2⟩ := List.getElem?_eq_some_iff.1 h
    rw [← h2, ← List.drop_eq_getElem_cons h1, List.take_append_drop]) (fun k h => h.elim) hw5.j 2
   simp only [prE] at hy
   have HRd : Hid (RoundIn Fence.wide 2 Tryz.prog l fn tm as_ bd (wr.alloc (.cells #[.string ⟨p.1.toArray⟩, .string ⟨p.2.toArray⟩] 168)) fun e W' => e = .returned (.bool true) ∧ Hid (Wlo W R J K2 (L.take (i + 1)) W')) := Lib.hid (hRd.mono (fun e W' ⟨hfr, hc⟩ => by
    rcases hc with ⟨rfl, hj⟩ | ⟨_, hjx⟩
    ·refine ⟨rfl, Lib.hid (hw5.round ?_ hfr)⟩
     rw [List.take_add_one, HP.out]; exact hj
    ·exact absurd hjx (HS.out.1 _ _ _)))
   clear hRd hw5 hK2
   gi_wp2_with (refine HRd.out.mono ?_; rintro e W2 ⟨rfl, HW2⟩)
   have e1 : (i : Int) + 1 = ((i + 1 : Nat) : Int) := by omega
   rw [e1]
   exact Handed.intro N (by omega) (hJ' _ _ _ ⟨i + 1, K2, by omega, ⟨_, _, _, _, _, _, _, _, _, _, _, _, _, _, rfl⟩, HW2⟩)
end Go.Proofs.YtecnijnmgdfdhaaGreat

namespace Go.Proofs.YtecnijnmgdfdhaaGreat
open Go.RowKit Tr
open Ky (less)
attribute [local go_sem] Oper.semAt_some
set_option maxHeartbeats 4000000 in
set_option maxRecDepth 100000 in
theorem allT_new (b o h : Nat) (g : G) (w : World) (hT : TreeAt w b o h g) (hl : (flat h g).length ≤ 900000) :
  Calls Tryz.prog 79 #[ptrV b] w fun e V => ∃ (Bx : Nat) (a : Option Addr) (c : Nat), e = .returned (.func (.func 115) #[] #[.pointer (some ⟨Bx, 0, none⟩)]) ∧ V.cell? ⟨Bx, 0, none⟩ = some (.slice a (flat h g).length c) ∧ Rd V 2 a (flat h g).length c (pairsV (flat h g)) ∧ Below w.heap.size w V ∧ w.heap.size ≤ Bx ∧ ∀ x, a = some x → flat h g ≠ [] → w.heap.size ≤ x.block := by
 obtain ⟨i0, hi, hz0, hz1, hz2⟩ := info_parts Tryz.infoPair
 refine calls_marks Tryz.func79 rfl ?_
 simp only [Tryz.ntmps79, List.size_toArray, List.length_cons, List.length_nil, Nat.reduceAdd, Nat.reduceSub, Array.replicate_succ, Array.replicate_zero, List.push_toArray, List.append_toArray, List.nil_append, List.cons_append]
 have hb0 := al1 w (.cells #[.slice none 0 0] 169)
 have y2 := old_cell hT.m.c2 hb0
 have HT := Lib.hid (And.intro hT hl)
 have HWk := Lib.hid (fun w => walkN_any g.b w)
 obtain ⟨W1, hW1⟩ : ∃ W1, w.alloc (.cells #[.slice none 0 0] 169) = W1 := ⟨_, rfl⟩
 rw [hW1] at y2 hb0
 have HW1 := Lib.hid (And.intro hb0 hW1)
 clear hT hl hb0
 gi_wp2_with (refine ⟨trivial, ?_⟩; gi_at_call 114; refine (callsIn_wide.2 (HWk.out _)).mono ?_; rintro e W0 ⟨rfl, hW0⟩)
 have hs0 : W0.heap.size = w.heap.size + 2 := by rw [← hW0, World.size_alloc, ← HW1.out.2, World.size_alloc]
 have hs1 : W1.heap.size = w.heap.size + 1 := by rw [← HW1.out.2, World.size_alloc]
 have hb1 : Below W1.heap.size W1 W0 := by rw [← hW0]; exact al1 W1 _
 have hb2 : Below w.heap.size w W0 := HW1.out.1.trans (hb1.mono HW1.out.1.size)
 have c0 : W1.cell? ⟨w.heap.size, 0, none⟩ = some (.slice none 0 0) := by rw [← HW1.out.2]; simp
 have f0 : W1.frozen? ⟨w.heap.size, 0, none⟩ = false := by rw [← HW1.out.2]; simp
 have c1 : W0.cell? ⟨W1.heap.size, 0, none⟩ = some (ptrV g.b) := by rw [← hW0]; simp
 have hnd := HT.out.1.m.nd
 have hlies := hnd.lies
 have HL := Lib.hid (And.intro hs0 (And.intro hs1 (And.intro hlies hb2)))
 obtain ⟨L, hL⟩ : ∃ L, flat h g = L := ⟨_, rfl⟩
 have HLL := Lib.hid hL
 obtain ⟨v, hv⟩ : ∃ v, w.heap.size = v := ⟨_, rfl⟩
 obtain ⟨u, hu⟩ : ∃ u, W1.heap.size = u := ⟨_, rfl⟩
 have HV := Lib.hid (And.intro hv hu)
 have HSZ := Lib.hid (And.intro hs0 (And.intro hs1 (And.intro hb1 (And.intro hb2 (And.intro hnd hlies)))))
 have hvs : v < W0.heap.size := by omega
 have HS0 := Lib.hid (old_cell c0 hb1)
 have HF0 := Lib.hid ((hb1.frozen (p := ⟨w.heap.size, 0, none⟩) (show w.heap.size < W1.heap.size by omega)).trans f0)
 have HC1 := Lib.hid c1
 rw [hv, hu]
 clear hs0 hs1 hb1 hb2 hnd hlies c0 f0 c1 hL hv hu hW0 hW1
 refine wpIn_range_tells (by omega) (gf := 142) (lb := #[.pointer (some ⟨u, 0, none⟩)]) rfl (enters_any Tryz.func142 (by kernel_rfl) rfl) (encs := prE) (stops := False) (xs := L)
  (R := fun k => (∃ x, foot h g k x) ∨ k = u) (K0 := fun _ => False) (fun o1 o2 => ?seq) (fun x => rfl) ?rlt (fun k hk => hk.elim)
  (Coll 2 pairsV W0 v) (fun _ _ _ _ => False) (Coll.clos hvs)
  (fun _ _ _ _ _ _ h _ _ => h) (.inr (fun _ _ _ _ h => h)) (Coll.start hvs rfl (by rw [← HV.out.1]; exact HS0.out) (by rw [← HV.out.1]; exact HF0.out))
  (fun x => { tmps := #[ptrV b, undef, .nilFunc, .pointer (some ⟨v, 0, none⟩), .string ⟨x.1.toArray⟩, .string ⟨x.2.toArray⟩, ptrV b,
     .bool true, ptrV b, .pointer (some ⟨b, 0, none⟩), .pointer (some ⟨b, 2, none⟩), ptrV g.b,
     .func (.func 142) #[] #[.pointer (some ⟨u, 0, none⟩)], .string ⟨x.1.toArray⟩, .string ⟨x.2.toArray⟩, undef, undef, undef, undef, undef, undef, undef], defers := [] }) ?assign ?body ?done ?stop
 case seq =>
  obtain ⟨hs0, hs1, hb1, hb2, hnd, hlies⟩ := HSZ.out
  have hvu := HV.out
  have hbo : Below W0.heap.size W0 ((W0.alloc o1).alloc o2) := (al1 W0 o1).trans ((al1 (W0.alloc o1) o2).mono (by simp))
  rw [← HLL.out]
  refine walk_tells o h g u _ _ HT.out.1.good.kids ((hnd.later hb2).later hbo) HT.out.2 (old_cell (by rw [← HV.out.2]; exact HC1.out) hbo) (fun k x hx => .inl ⟨x, hx⟩) (.inr rfl) (fun k hk => ?_)
  have hbs := hbo.size
  rcases hk with ⟨x, hx⟩ | rfl
  ·have := hlies k x hx; omega
  ·omega
 case rlt =>
  intro k hk
  obtain ⟨hs0, hs1, hb1, hb2, hnd, hlies⟩ := HSZ.out
  have hvu := HV.out
  rcases hk with ⟨x, hx⟩ | rfl
  ·have := hlies k x hx; omega
  ·omega
 case assign =>
  intro l' x W2 K1 hK1
  simp only [prE]
  gi_wp2
  exact hK1
 case body =>
  rintro l' K pre x post W2 hx _ ⟨F, a, c, h1, h2, h3, h4, h5, h6, h7⟩
  have hn : pre.length + 1 ≤ 900000 := by
   have h1 := HT.out.2
   rw [HLL.out, hx] at h1
   simp at h1
   omega
  have hb3 := al1 W2 (.cells #[.string ⟨x.1.toArray⟩, .string ⟨x.2.toArray⟩] 168)
  have HS := Lib.hid (And.intro h1 (And.intro h2 (And.intro h3 (And.intro h6 h7))))
  have HB3 := Lib.hid hb3
  obtain ⟨n, hnn⟩ : ∃ n, pre.length = n := ⟨_, rfl⟩
  have HN := Lib.hid hnn
  rw [hnn] at h4 hn
  clear h1 h2 h3 h6 h7 hx hb3 hnn
  gi_wp2_with (gi_at_builtin; refine wpListIn_app_sl rfl (.tmp 15) (.tmp 19) 169 rfl 168 i0 _ 2 32 Tryz.underlying169 hi hz0 hz1 hz2 rfl (by decide) F a n c (pairsV pre) rfl (by have := HS.out.1.laid (.cells #[.string ⟨x.1.toArray⟩, .string ⟨x.2.toArray⟩] 168); rwa [HN.out] at this) (HS.out.2.1.laid _) (some ⟨W2.heap.size, 0, none⟩) 1 1 [.string ⟨x.1.toArray⟩, .string ⟨x.2.toArray⟩] rfl (Rd.twoNew W2 _ _ _ rfl rfl) (n + 1) (pairsV (pre ++ [x])) rfl (by simp [pairsV]) (by unfold maxLen; omega) (by omega) ?_; intro a' c' W3 F' k1 k2 k3 k4; have H3 := Lib.hid (And.intro k1 (And.intro k2 (And.intro k3 k4))); obtain ⟨hc3, hf3⟩ := Coll.after hvs HS.out.2.2.1 h4 h5 HB3.out k2; clear k1 k2 k3 k4)
  obtain ⟨hs0, hs1, hb1, hb2, hnd, hlies⟩ := HSZ.out
  have hvu := HV.out
  have e : (pre ++ [x]).length = n + 1 := by simp [HN.out]
  have hst := Coll.step (V := pairsV) (pre := pre) (x := x) hvs HS.out.2.1 HS.out.2.2.1 HS.out.2.2.2.1 HS.out.2.2.2.2 HB3.out (by rw [e]; exact H3.out.1) H3.out.2.1 H3.out.2.2.1 H3.out.2.2.2 (by rw [h4]; rfl) h5 (fun k => (∃ x, foot h g k x) ∨ k = u) (fun k hk => by
   rcases hk with ⟨x, hx⟩ | rfl
   ·have := hlies k x hx; omega
   ·omega)
  rw [e] at hst
  exact hst
 case stop =>
  intro D c K pre x post W2 _ h
  exact h.elim
 case done =>
  rintro D K W2 ⟨F, a, c, h1, h2, h3, h4, h5, h6, h7⟩ _ hKD hsD hDef
  gi_wp2
  obtain ⟨hs0, hs1, hb1, hb2, hnd, hlies⟩ := HSZ.out
  have hvu := HV.out
  rw [HLL.out]
  refine leave_marks [D] W2 (by simp) (fun E hE => by simp at hE; subst hE; exact hDef) (fun W' hf => ?_)
  have hvv : ¬ (v ∈ [D]) := by simp; omega
  refine ⟨_, results_tmp rfl _ _ _, v, a, c, rfl, cell_fr hf h4 hvv, (h1.fr hf (fun b o hb hk => ?_)).rd, hb2.trans ?_, by omega, fun x hx hne => ?_⟩
  ·simp at hk; subst hk; exact (h3 _ _ hb).2 hKD
  ·refine ((h6.trans hf (fun b o hb => .inr ?_)).below (B := w.heap.size) (by omega) (fun k x hk => ?_))
   ·simp at hb; subst hb; exact hsD
   ·omega
  ·have hp : 0 < L.length * 2 := by
    have := List.length_pos_iff.2 hne
    omega
   obtain ⟨b2, o2, rfl, k1, _⟩ := h1.at_ x hx (by have := h1.le; omega)
   have := (h3 _ _ (k1 0 (by have := h1.le; omega))).1
   simp only
   omega
end Go.Proofs.YtecnijnmgdfdhaaGreat

namespace Go.Proofs.YtecnijnmgdfdhaaGreat
open Go.RowKit
section
variable {P : Program} {ops : Array Oper} {md : Region.Mode} {n : Nat} {Q : Exit → Act → World → Prop} {l : Nat}
theorem rows_round {row : String} {args : Array Value} {w : World} {R : Value → World → Prop} (h : Rows P row args w R) : RowsIn (Fence.wide.inRound l) n P row args w R :=
 fun c cs _ => let ⟨v, w', r, s⟩ := h c cs; ⟨v, w', r, stepsIn_wide.2 s⟩
theorem opIn_of_wp {o : Oper} {a : Act} {w : World} {K K' : Act → World → Prop} (hd : ∀ c, o.op ≠ .defer c) (hk : ∀ a w, K a w → K' a w) (h : o.wp P a w K Q) : o.wpIn (Fence.wide.inRound l) n P a w K' Q := by
 refine ⟨fun f _ => trivial, ?_⟩
 rw [sem_round hd]
 unfold Oper.wp at h
 generalize (execOp a.eval o).run P w = r at *
 cases r with
 | ok x w' =>
  cases x <;> simp only [Oper.upon] at h <;> simp only [Oper.uponIn]
  case value u => exact hk _ _ h
  case skip => exact hk _ _ h
  case defer d => exact hk _ _ h
  case enter f args =>
   refine ⟨fun hs => (by cases hs), calls_round l (h.mono fun e w'' he => ?_)⟩
   cases e with
   | returned v => exact hk _ _ he
   | panicked c => exact he
   | outgrown => exact he
  case row row args => exact ⟨fun hs => (by cases hs), rows_round (h.mono fun v w'' he => hk _ _ he)⟩
 | halt x w' =>
  cases x <;> simp only [Oper.upon] at h <;> simp only [Oper.uponIn] <;> exact h
theorem opsIn_of_wp {l' : List Oper} {i : Nat} {a : Act} {w : World} {K K' : Act → World → Prop} (hnd : noDefer l' = true) (hl : ¬ LetsOut Q) (hk : ∀ a w, K a w → K' a w) (h : wpOp P l'.toArray Q i K a w) : wpOpIn (Fence.wide.inRound l) n P l'.toArray Q i K' a w := by
 unfold wpOp at h
 unfold wpOpIn
 split
 ·rename_i ho; simp only [ho] at h; exact hk _ _ h
 ·rename_i o ho
  simp only [ho] at h
  have hm : o ∈ l' := by
   have := Array.mem_of_getElem? ho
   simpa using this
  split
  ·rename_i hw
   simp only [hw, if_true] at h
   rcases h with h | ⟨_, h⟩
   ·exact opIn_of_wp (noDefer_spec hnd hm) hk h
   ·exact absurd h hl
  ·rename_i hw; simp only [hw] at h; exact ⟨fun f _ => trivial, hk _ _ h⟩
theorem anyIn_of_any {l' : List Oper} (hnd : noDefer l' = true) (hl : ¬ LetsOut Q) : ∀ (f : Nat) (listed : Array Bool) (a : Act) (w : World), wpAny P md l'.toArray Q f listed a w → wpAnyIn (Fence.wide.inRound l) n P md l'.toArray Q f listed a w
 | 0, _, _, _, h => h
 | _ + 1, _, _, _, h => ⟨h.1, fun i hi => opsIn_of_wp hnd hl (fun a' w' h' => anyIn_of_any hnd hl _ _ a' w' h') (h.2 i hi)⟩
theorem wpIn_region_any' {id : Nat} {l' : List Oper} {a : Act} {w : World} (hnd : noDefer l' = true) (hm : P.follows .mixedOrders = true) (hl : ¬ LetsOut Q)
  (h : wpAny P .any l'.toArray Q l'.toArray.size (Array.replicate l'.toArray.size false) a { w with drawn := w.drawn + 1 }) : (Code.region id l'.toArray true).wpIn (Fence.wide.inRound l) n P Q a w :=
 wpIn_region_any hm (anyIn_of_any hnd hl _ _ _ _ h)
theorem wpIn_region_till {id : Nat} {l' : List Oper} {a : Act} {w : World} (m : Nat) (S : World → Prop) (hnd : noDefer l' = true) (hl : ¬ LetsOut Q) (hm : P.follows .mixedOrders = true) (hS : S w.drew)
  (h : S w.drew → wpTill P .any l'.toArray Q S m l'.toArray.size (Array.replicate l'.toArray.size false) a w.drew) : (Code.region id l'.toArray true).wpIn (Fence.wide.inRound l) n P Q a w :=
 wpIn_region_any' hnd hm hl (wpAny_of_till _ _ _ _ (h hS))
def onlyK (K : Act → World → Prop) : Exit → Act → World → Prop
 | .normal, a, w => K a w
 | _, _, _ => False
theorem wp_only {c : Code} {a : Act} {w : World} (h : c.wp P (onlyK (Q .normal)) a w) : c.wp P Q a w :=
 wp_mono h (fun e _ _ h => by cases e <;> first | exact h | exact h.elim)
end
end Go.Proofs.YtecnijnmgdfdhaaGreat

namespace Go.Proofs.YtecnijnmgdfdhaaGreat
open Go.RowKit
section
variable {α : Type} {P : Program} {n : Nat}
theorem wpIn_range_box {g : Operand} {ps : Array Tmp} {assign body : Code} {Q : Exit → Act → World → Prop} {a : Act} {w : World}
  (h1 : 1 ≤ n) {gf : Nat} {lb : Array Value} (hg : a.eval g = .func (.func gf) #[] lb) (eg : ∀ args w, (callFunc gf args).run P w = .ok (.enter gf args) w)
  {encs : α → Array Value} {stops : Prop} {xs : List α} {R K0 : Nat → Prop} (hseq : ∀ o1 o2, Tells stops P gf lb encs xs R K0 ((w.alloc o1).alloc o2)) (hps : ∀ x, (encs x).size = ps.size)
  (hR : ∀ k, R k → k < w.heap.size) (hK0 : ∀ k, K0 k → k < w.heap.size)
  (I : (Nat → Prop) → List α → World → Prop) (Ix : Code → (Nat → Prop) → List α → World → Prop) (hI : Clos I) (hIx : ∀ c, Clos (Ix c)) (hst : stops ∨ ∀ c K pre W, ¬ Ix c K pre W) (h0 : I K0 [] w) (obj : α → Obj) (hlo : ∀ K pre W, I K pre W → ∀ k, K k → k < W.heap.size) (a₁ : α → Nat → Act)
  (hassign : ∀ (l : Nat) (x : α) (W : World) (K : Act → World → Prop), K (a₁ x W.heap.size) (W.alloc (obj x)) →
   assign.wpIn (Fence.wide.inRound l) (n - 1 - 1) P (Exit.then K (fun _ _ _ => False)) { tmps := (ps.zip (encs x)).foldl (fun t (p, v) => t.setIfInBounds p v) a.tmps, defers := [] } W)
  (hbody : ∀ (l r : Nat) (K : Nat → Prop) (pre : List α) (x : α) (post : List α) (W : World), xs = pre ++ x :: post → (∀ k, K0 k → K k) → I K pre W → W.heap[r]? = some (obj x) → ¬ K r → ¬ R r → w.heap.size ≤ r → body.wpIn (Fence.wide.inRound l) (n - 1 - 1) P (tellPost I Ix R K (pre ++ [x]) W) (a₁ x r) W)
  (hdone : ∀ (D : Nat) (K : Nat → Prop) (W : World), I K xs W → (∀ k, K0 k → K k) → K D → w.heap.size ≤ D → W.heap[D]? = some (.deferred (some [])) → Q .normal { a with defers := { target := .collected D, args := #[] } :: a.defers } W)
  (hstop : ∀ (D : Nat) (c : Code) (K : Nat → Prop) (pre : List α) (x : α) (post : List α) (W : World), xs = pre ++ x :: post → Ix c K (pre ++ [x]) W → (∀ k, K0 k → K k) → K D → w.heap.size ≤ D → W.heap[D]? = some (.deferred (some [])) →
   c.wpIn Fence.wide n P Q { a with defers := { target := .collected D, args := #[] } :: a.defers } W) :
  (Code.rangeFunc g ps assign body).wpIn Fence.wide n P Q a w := by
 refine wpIn_rangeFunc ?_
 intro fn _
 obtain ⟨s0, hs0⟩ : ∃ s0, w.heap.size = s0 := ⟨_, rfl⟩
 obtain ⟨rec, hrec⟩ : ∃ rec : LoopState → Option Code → Loop, rec = fun st pe => { state := st, pending := pe, fn, tmps := a.tmps, params := ps, assign, body, defers := w.heap.size } := ⟨_, rfl⟩
 obtain ⟨W1, hW1⟩ : ∃ W1, (w.alloc (.deferred (some []))).alloc (.loop (rec .ready none)) = W1 := ⟨_, rfl⟩
 have hL1 : W1.heap[s0 + 1]? = some (.loop (rec .ready none)) := by
  rw [← hW1, ← hs0]; have := World.alloc_heap_new (w.alloc (.deferred (some []))) (.loop (rec .ready none)); rwa [World.size_alloc] at this
 have hK1 : W1.heap[s0]? = some (.deferred (some [])) := by
  rw [← hW1, ← hs0]; exact (Below.heap_alloc _ _ _ (by simp)).trans (World.alloc_heap_new w _)
 have hsz1 : W1.heap.size = s0 + 2 := by rw [← hW1]; simp [hs0]
 have hfr1 : Fr (fun k _ => K0 k) w W1 := by rw [← hW1]; exact ((Fr.refl _ w).alloc _).alloc _
 have hI1 : I (fun k => K0 k ∨ k = s0 ∨ k = s0 + 1) [] W1 := hI _ _ _ _ _ h0 hfr1 (fun k hk => by
  rcases hk with h | rfl | rfl
  ·exact .inl h
  ·exact .inr (by omega)
  ·exact .inr (by omega))
 refine ⟨s0 + 1, [{ target := .collected s0, args := #[] }], W1, { target := .fn (.func gf) lb, args := #[.func (.yield (s0 + 1)) #[] #[]] }, W1, gf,
  #[.func (.yield (s0 + 1)) #[] #[]] ++ lb, W1, ?_, ?_, ?_, ?_, fun _ => h1, callsIn_wide.2 ?_⟩
 ·rw [← hW1, hrec, ← hs0]; exact run_enterLoop_outer _ _ _ _ _
 ·simp only [resolve, hg]
  simp [go_sem]
 ·intro f' _; trivial
 ·simp [invoke, go_sem, eg]
 have cl : ∀ {I : (Nat → Prop) → List α → World → Prop}, Clos I → ∀ st pe, Clos (fun K pre W => I (fun k => K k ∨ k = s0 ∨ k = s0 + 1) pre W ∧ W.heap[s0 + 1]? = some (.loop (rec st pe)) ∧ W.heap[s0]? = some (.deferred (some [])) ∧ ¬ K s0 ∧ ¬ K (s0 + 1)) := by
  intro I hI st pe K K' pre W W' ⟨hi, hl, hk, n1, n2⟩ hf hK
  have l0 := (Array.getElem?_eq_some_iff.1 hl).1
  refine ⟨hI _ _ _ _ _ hi (hf.mono (fun k _ h => .inl h)) (fun k h => ?_), hf.obj hl (fun _ => n2), hf.obj hk (fun _ => n1), fun h => ?_, fun h => ?_⟩
  ·rcases h with h | h | h
   ·exact (hK k h).imp .inl id
   ·exact .inl (.inr (.inl h))
   ·exact .inl (.inr (.inr h))
  ·rcases hK _ h with h | h
   ·exact n1 h
   ·omega
  ·rcases hK _ h with h | h
   ·exact n2 h
   ·omega
 have hseq1 := hseq (.deferred (some [])) (.loop (rec .ready none))
 rw [hW1] at hseq1
 refine (hseq1 (s0 + 1)
  (fun K pre W => I (fun k => K k ∨ k = s0 ∨ k = s0 + 1) pre W ∧ W.heap[s0 + 1]? = some (.loop (rec .ready none)) ∧ W.heap[s0]? = some (.deferred (some [])) ∧ ¬ K s0 ∧ ¬ K (s0 + 1))
  (fun K pre W => ∃ c, Ix c (fun k => K k ∨ k = s0 ∨ k = s0 + 1) pre W ∧ W.heap[s0 + 1]? = some (.loop (rec .done (some c))) ∧ W.heap[s0]? = some (.deferred (some [])) ∧ ¬ K s0 ∧ ¬ K (s0 + 1))
  (hst.imp id (fun h K pre W ⟨c, hc, _⟩ => h _ _ _ _ hc)) (cl hI _ _) (fun K K' pre W W' ⟨c, hc⟩ hf hK => ⟨c, cl (hIx c) _ _ K K' pre W W' hc hf hK⟩) ?_ ⟨hI1, hL1, hK1, fun h => by have := hK0 _ h; omega, fun h => by have := hK0 _ h; omega⟩).mono ?_
 ·-- one round
  rintro K pre x post W hx hK0K ⟨hi, hl, hk, n1, n2⟩ m
  have hlt : s0 + 1 < W.heap.size := (Array.getElem?_eq_some_iff.1 hl).1
  have hy := run_yield (P := P) (args := encs x) hl (by rw [hrec]; exact hps x)
  rw [hrec] at hy
  have hfa : Fr (fun k _ => ¬ K k ∧ ¬ R k) W (W.alloc (obj x)) := Fr.laid _ W (obj x)
  have hra : (W.alloc (obj x)).heap[W.heap.size]? = some (obj x) := World.alloc_heap_new W (obj x)
  have hla := (Fr.laid (noCells) W (obj x)).obj hl (fun _ h => h)
  have hka := (Fr.laid (noCells) W (obj x)).obj hk (fun _ h => h)
  have hia := hI _ (fun k => K k ∨ k = s0 ∨ k = s0 + 1) _ _ _ hi ((Fr.laid (noCells) W (obj x)).mono (fun _ _ h => h.elim)) (fun k h => .inl h)
  refine ⟨fn, _, assign, body, hy, roundIn_any (m := n - 1 - 1) (roundIn_of_wpIn trivial (hassign _ x W _ ⟨_, run_beginRound hla (by rw [hrec]), ?_⟩))⟩
  obtain ⟨Wa, hWa⟩ : ∃ Wa, W.alloc (obj x) = Wa := ⟨_, rfl⟩
  rw [hWa] at hfa hra hla hka hia ⊢
  have hlta : s0 + 1 < Wa.heap.size := (Array.getElem?_eq_some_iff.1 hla).1
  have hr2 : (Wa.putObj (s0 + 1) (.loop { rec .ready none with state := .busy })).heap[W.heap.size]? = some (obj x) := (World.putObj_heap_other (by omega)).trans hra
  have hrK : ¬ (K W.heap.size ∨ W.heap.size = s0 ∨ W.heap.size = s0 + 1) := fun h => by
   have := hlo _ _ _ hi W.heap.size h
   omega
  have hrR : ¬ R W.heap.size := fun h => by have := hR _ h; omega
  have hl2 : (Wa.putObj (s0 + 1) (.loop { rec .ready none with state := .busy })).heap[s0 + 1]? = some (.loop { rec .ready none with state := .busy }) := World.putObj_heap_same hlta
  have hk2 : (Wa.putObj (s0 + 1) (.loop { rec .ready none with state := .busy })).heap[s0]? = some (.deferred (some [])) := (World.putObj_heap_other (by omega)).trans hka
  have hf2 := Fr.putObj Wa (s0 + 1) (.loop { rec .ready none with state := .busy })
  have hi2 := hI _ (fun k => K k ∨ k = s0 ∨ k = s0 + 1) _ _ _ hia (hf2.mono (fun k _ h => .inr (.inr h))) (fun k h => .inl h)
  refine wpIn_mono (hbody _ W.heap.size _ pre x post _ hx (fun k h => .inl (hK0K k h)) hi2 hr2 hrK hrR (by omega)) ?_
  have nr : ∀ k, R k → ¬ k = s0 ∧ ¬ k = s0 + 1 := fun k h => by have := hR k h; omega
  have fin : ∀ {I : (Nat → Prop) → List α → World → Prop}, Clos I → ∀ (jump : Option Code) (W3 : World), Fr (fun k _ => ¬ (K k ∨ k = s0 ∨ k = s0 + 1) ∧ ¬ R k) (Wa.putObj (s0 + 1) (.loop { rec .ready none with state := .busy })) W3 → I (fun k => K k ∨ k = s0 ∨ k = s0 + 1) (pre ++ [x]) W3 →
    (Instr.endRound (s0 + 1) jump).run P W3 = .ok (.bool jump.isNone) (W3.putObj (s0 + 1) (.loop (rec (if jump.isNone then .ready else .done) jump))) ∧
    Fr (fun k _ => ¬ K k ∧ ¬ R k) Wa (W3.putObj (s0 + 1) (.loop (rec (if jump.isNone then .ready else .done) jump))) ∧
    I (fun k => K k ∨ k = s0 ∨ k = s0 + 1) (pre ++ [x]) (W3.putObj (s0 + 1) (.loop (rec (if jump.isNone then .ready else .done) jump))) ∧
    (W3.putObj (s0 + 1) (.loop (rec (if jump.isNone then .ready else .done) jump))).heap[s0 + 1]? = some (.loop (rec (if jump.isNone then .ready else .done) jump)) ∧
    (W3.putObj (s0 + 1) (.loop (rec (if jump.isNone then .ready else .done) jump))).heap[s0]? = some (.deferred (some [])) := fun {I} hI jump W3 hf3 hi3 => by
   have hl3 := hf3.obj hl2 (fun _ h => h.1 (.inr (.inr rfl)))
   have hk3 := hf3.obj hk2 (fun _ h => h.1 (.inr (.inl rfl)))
   have hr := run_endRound (P := P) jump hl3
   have hf4 := Fr.putObj W3 (s0 + 1) (.loop (rec (if jump.isNone then .ready else .done) jump))
   have hown : ∀ k (_ : Nat), k = s0 + 1 → (¬ K k ∧ ¬ R k) := fun k _ h => by
    subst h
    exact ⟨n2, fun h => (nr _ h).2 rfl⟩
   refine ⟨?_, ((hf2.mono hown).trans hf3 (fun b _ h => .inl ⟨fun h' => h.1 (.inl h'), h.2⟩)).trans hf4 (fun b o h => .inl (hown b o h)), hI _ _ _ _ _ hi3 (hf4.mono (fun k _ h => .inr (.inr h))) (fun k h => .inl h), World.putObj_heap_same (Array.getElem?_eq_some_iff.1 hl3).1, (World.putObj_heap_other (by omega)).trans hk3⟩
   rw [hr, hrec]
  rintro e a3 W3 hp
  cases e with
  | normal =>
   obtain ⟨hr, q1, q2, q3, q4⟩ := fin hI none W3 hp.1 hp.2
   exact ⟨_, _, hr, hfa.trans q1 (fun _ _ h => .inl h), .inl ⟨rfl, q2, q3, q4, n1, n2⟩⟩
  | ret =>
   obtain ⟨hr, q1, q2, q3, q4⟩ := fin (hIx _) (some .ret) W3 hp.1 hp.2
   exact ⟨_, _, hr, hfa.trans q1 (fun _ _ h => .inl h), .inr ⟨rfl, .ret, q2, q3, q4, n1, n2⟩⟩
  | exit id =>
   obtain ⟨hr, q1, q2, q3, q4⟩ := fin (hIx _) (some (.exit id)) W3 hp.1 hp.2
   exact ⟨_, _, hr, hfa.trans q1 (fun _ _ h => .inl h), .inr ⟨rfl, .exit id, q2, q3, q4, n1, n2⟩⟩
  | goto t =>
   obtain ⟨hr, q1, q2, q3, q4⟩ := fin (hIx _) (some (.goto t)) W3 hp.1 hp.2
   exact ⟨_, _, hr, hfa.trans q1 (fun _ _ h => .inl h), .inr ⟨rfl, .goto t, q2, q3, q4, n1, n2⟩⟩
  | panic ch => exact hp.elim
  | outgrown => exact hp.elim
 ·-- behind the iterator
  rintro e W2 ⟨⟨v, rfl⟩, K, hK, (⟨hi, hl, hk, n1, n2⟩ | ⟨pre, x, post, hx, c, hi, hl, hk, n1, n2⟩)⟩
  ·refine ⟨none, _, (by have := run_endLoop (P := P) hl (by rw [hrec]; simp); rw [hrec] at this; exact this), ?_⟩
   have hf4 := Fr.putObj W2 (s0 + 1) (.loop { rec .ready none with state := .exhausted })
   rw [hrec] at hf4
   exact hdone s0 _ _ (hI _ _ _ _ _ hi (hf4.mono (fun k _ h => .inr (.inr h))) (fun k h => .inl h)) (fun k h => .inl (hK k h)) (.inr (.inl rfl)) (by omega) ((World.putObj_heap_other (by omega)).trans hk)
  ·refine ⟨some c, _, (by have := run_endLoop (P := P) hl (by rw [hrec]; simp); rw [hrec] at this; exact this), ?_⟩
   have hf4 := Fr.putObj W2 (s0 + 1) (.loop { rec .done (some c) with state := .exhausted })
   rw [hrec] at hf4
   exact hstop s0 c _ pre x post _ hx (hIx c _ _ _ _ _ hi (hf4.mono (fun k _ h => .inr (.inr h))) (fun k h => .inl h)) (fun k h => .inl (hK k h)) (.inr (.inl rfl)) (by omega) ((World.putObj_heap_other (by omega)).trans hk)
end
end Go.Proofs.YtecnijnmgdfdhaaGreat
