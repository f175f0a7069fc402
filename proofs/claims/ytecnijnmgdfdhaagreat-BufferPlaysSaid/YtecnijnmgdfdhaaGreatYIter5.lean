/- Joined: Iter5. -/
import Derived.Test.YtecnijnmgdfdhaaGreatYTreeF
namespace Go.Proofs.YtecnijnmgdfdhaaGreat
open Go.RowKit
section
variable {α : Type} {P : Program} {n : Nat}
def TellsA (P : Program) (gf : Nat) (lb : Array Value) (encs : α → Array Value) (Adm Fin : List α → Prop) (R K0 : Nat → Prop) (W : World) : Prop :=
 ∀ (l : Nat) (J : (Nat → Prop) → List α → World → Prop), Clos J →
  (∀ K pre x W1, Adm (pre ++ [x]) → (∀ k, K0 k → K k) → J K pre W1 → ∀ m, YieldAt Fence.wide m P l (encs x) W1 fun e W' =>
   Fr (fun k _ => ¬ K k ∧ ¬ R k) W1 W' ∧ e = .returned (.bool true) ∧ J K (pre ++ [x]) W') →
  J K0 [] W →
  Calls P gf (#[.func (.yield l) #[] #[]] ++ lb) W fun e W' => (∃ v, e = .returned v) ∧ ∃ K, (∀ k, K0 k → K k) ∧ ∃ xs, Fin xs ∧ J K xs W'
theorem wpIn_range_tellsA {g : Operand} {ps : Array Tmp} {assign body : Code} {Q : Exit → Act → World → Prop} {a : Act} {w : World}
  (h1 : 1 ≤ n) {gf : Nat} {lb : Array Value} (hg : a.eval g = .func (.func gf) #[] lb) (eg : ∀ args w, (callFunc gf args).run P w = .ok (.enter gf args) w)
  {encs : α → Array Value} {Adm Fin : List α → Prop} {R K0 : Nat → Prop} (hseq : ∀ o1 o2, TellsA P gf lb encs Adm Fin R K0 ((w.alloc o1).alloc o2)) (hps : ∀ x, (encs x).size = ps.size)
  (hR : ∀ k, R k → k < w.heap.size) (hK0 : ∀ k, K0 k → k < w.heap.size)
  (I : (Nat → Prop) → List α → World → Prop) (hI : Clos I) (h0 : I K0 [] w) (a₁ : α → Act)
  (hassign : ∀ (l : Nat) (x : α) (W : World) (K : Act → World → Prop), K (a₁ x) W →
   assign.wpIn (Fence.wide.inRound l) (n - 1 - 1) P (Exit.then K (fun _ _ _ => False)) { tmps := (ps.zip (encs x)).foldl (fun t (p, v) => t.setIfInBounds p v) a.tmps, defers := [] } W)
  (hbody : ∀ (l : Nat) (K : Nat → Prop) (pre : List α) (x : α) (W : World), Adm (pre ++ [x]) → (∀ k, K0 k → K k) → I K pre W → body.wpIn (Fence.wide.inRound l) (n - 1 - 1) P (tellPost I (fun _ _ _ _ => False) R K (pre ++ [x]) W) (a₁ x) W)
  (hdone : ∀ (D : Nat) (K : Nat → Prop) (xs : List α) (W : World), Fin xs → I K xs W → (∀ k, K0 k → K k) → K D → w.heap.size ≤ D → W.heap[D]? = some (.deferred (some [])) → Q .normal { a with defers := { target := .collected D, args := #[] } :: a.defers } W) :
  (Code.rangeFunc g ps assign body).wpIn Fence.wide n P Q a w := by
 refine wpIn_rangeFunc ?_
 intro fn _
 obtain ⟨s0, hs0⟩ : ∃ s0, w.heap.size = s0 := ⟨_, rfl⟩
 obtain ⟨rec, hrec⟩ : ∃ rec : LoopState → Option Code → Loop, rec = fun st pe => { state := st, pending := pe, fn, tmps := a.tmps, params := ps, assign, body, defers := w.heap.size } := ⟨_, rfl⟩
 obtain ⟨W1, hW1⟩ : ∃ W1, (w.alloc (.deferred (some []))).alloc (.loop (rec .ready none)) = W1 := ⟨_, rfl⟩
 have hL1 : W1.heap[s0 + 1]? = some (.loop (rec .ready none)) := by
  rw [← hW1, ← hs0]; have := World.alloc_heap_new (w.alloc (.deferred (some []))) (.loop (rec .ready none)); rwa [World.size_alloc] at this
 have hK1 : W1.heap[s0]? = some (.deferred (some [])) := by
  rw [← hW1, ← hs0]; exact (Below.heap_alloc _ _ _ (by simp)).trans (World.alloc_heap_new w _)
 have hsz1 : W1.heap.size = s0 + 2 := by rw [← hW1]; simp [hs0]
 have hfr1 : Fr (fun k _ => K0 k) w W1 := by rw [← hW1]; exact ((Fr.refl _ w).alloc _).alloc _
 have hI1 : I (fun k => K0 k ∨ k = s0 ∨ k = s0 + 1) [] W1 := hI _ _ _ _ _ h0 hfr1 (fun k hk => by
  rcases hk with h | rfl | rfl
  ·exact .inl h
  ·exact .inr (by omega)
  ·exact .inr (by omega))
 refine ⟨s0 + 1, [{ target := .collected s0, args := #[] }], W1, { target := .fn (.func gf) lb, args := #[.func (.yield (s0 + 1)) #[] #[]] }, W1, gf,
  #[.func (.yield (s0 + 1)) #[] #[]] ++ lb, W1, ?_, ?_, ?_, ?_, fun _ => h1, callsIn_wide.2 ?_⟩
 ·rw [← hW1, hrec, ← hs0]; exact run_enterLoop_outer _ _ _ _ _
 ·simp only [resolve, hg]
  simp [go_sem]
 ·intro f' _; trivial
 ·simp [invoke, go_sem, eg]
 have cl : ∀ {I : (Nat → Prop) → List α → World → Prop}, Clos I → ∀ st pe, Clos (fun K pre W => I (fun k => K k ∨ k = s0 ∨ k = s0 + 1) pre W ∧ W.heap[s0 + 1]? = some (.loop (rec st pe)) ∧ W.heap[s0]? = some (.deferred (some [])) ∧ ¬ K s0 ∧ ¬ K (s0 + 1)) := by
  intro I hI st pe K K' pre W W' ⟨hi, hl, hk, n1, n2⟩ hf hK
  have l0 := (Array.getElem?_eq_some_iff.1 hl).1
  refine ⟨hI _ _ _ _ _ hi (hf.mono (fun k _ h => .inl h)) (fun k h => ?_), hf.obj hl (fun _ => n2), hf.obj hk (fun _ => n1), fun h => ?_, fun h => ?_⟩
  ·rcases h with h | h | h
   ·exact (hK k h).imp .inl id
   ·exact .inl (.inr (.inl h))
   ·exact .inl (.inr (.inr h))
  ·rcases hK _ h with h | h
   ·exact n1 h
   ·omega
  ·rcases hK _ h with h | h
   ·exact n2 h
   ·omega
 have hseq1 := hseq (.deferred (some [])) (.loop (rec .ready none))
 rw [hW1] at hseq1
 refine (hseq1 (s0 + 1)
  (fun K pre W => I (fun k => K k ∨ k = s0 ∨ k = s0 + 1) pre W ∧ W.heap[s0 + 1]? = some (.loop (rec .ready none)) ∧ W.heap[s0]? = some (.deferred (some [])) ∧ ¬ K s0 ∧ ¬ K (s0 + 1))
  (cl hI _ _) ?_ ⟨hI1, hL1, hK1, fun h => by have := hK0 _ h; omega, fun h => by have := hK0 _ h; omega⟩).mono ?_
 ·-- one round
  rintro K pre x W hx hK0K ⟨hi, hl, hk, n1, n2⟩ m
  have hlt : s0 + 1 < W.heap.size := (Array.getElem?_eq_some_iff.1 hl).1
  have hy := run_yield (P := P) (args := encs x) hl (by rw [hrec]; exact hps x)
  rw [hrec] at hy
  refine ⟨fn, _, assign, body, hy, roundIn_any (m := n - 1 - 1) (roundIn_of_wpIn trivial (hassign _ x W _ ⟨_, run_beginRound hl (by rw [hrec]), ?_⟩))⟩
  have hl2 : (W.putObj (s0 + 1) (.loop { rec .ready none with state := .busy })).heap[s0 + 1]? = some (.loop { rec .ready none with state := .busy }) := World.putObj_heap_same hlt
  have hk2 : (W.putObj (s0 + 1) (.loop { rec .ready none with state := .busy })).heap[s0]? = some (.deferred (some [])) := (World.putObj_heap_other (by omega)).trans hk
  have hf2 := Fr.putObj W (s0 + 1) (.loop { rec .ready none with state := .busy })
  have hi2 := hI _ (fun k => K k ∨ k = s0 ∨ k = s0 + 1) _ _ _ hi (hf2.mono (fun k _ h => .inr (.inr h))) (fun k h => .inl h)
  refine wpIn_mono (hbody _ _ pre x _ hx (fun k h => .inl (hK0K k h)) hi2) ?_
  have nr : ∀ k, R k → ¬ k = s0 ∧ ¬ k = s0 + 1 := fun k h => by have := hR k h; omega
  have fin : ∀ {I : (Nat → Prop) → List α → World → Prop}, Clos I → ∀ (jump : Option Code) (W3 : World), Fr (fun k _ => ¬ (K k ∨ k = s0 ∨ k = s0 + 1) ∧ ¬ R k) (W.putObj (s0 + 1) (.loop { rec .ready none with state := .busy })) W3 → I (fun k => K k ∨ k = s0 ∨ k = s0 + 1) (pre ++ [x]) W3 →
    (Instr.endRound (s0 + 1) jump).run P W3 = .ok (.bool jump.isNone) (W3.putObj (s0 + 1) (.loop (rec (if jump.isNone then .ready else .done) jump))) ∧
    Fr (fun k _ => ¬ K k ∧ ¬ R k) W (W3.putObj (s0 + 1) (.loop (rec (if jump.isNone then .ready else .done) jump))) ∧
    I (fun k => K k ∨ k = s0 ∨ k = s0 + 1) (pre ++ [x]) (W3.putObj (s0 + 1) (.loop (rec (if jump.isNone then .ready else .done) jump))) ∧
    (W3.putObj (s0 + 1) (.loop (rec (if jump.isNone then .ready else .done) jump))).heap[s0 + 1]? = some (.loop (rec (if jump.isNone then .ready else .done) jump)) ∧
    (W3.putObj (s0 + 1) (.loop (rec (if jump.isNone then .ready else .done) jump))).heap[s0]? = some (.deferred (some [])) := fun {I} hI jump W3 hf3 hi3 => by
   have hl3 := hf3.obj hl2 (fun _ h => h.1 (.inr (.inr rfl)))
   have hk3 := hf3.obj hk2 (fun _ h => h.1 (.inr (.inl rfl)))
   have hr := run_endRound (P := P) jump hl3
   have hf4 := Fr.putObj W3 (s0 + 1) (.loop (rec (if jump.isNone then .ready else .done) jump))
   have hown : ∀ k (_ : Nat), k = s0 + 1 → (¬ K k ∧ ¬ R k) := fun k _ h => by
    subst h
    exact ⟨n2, fun h => (nr _ h).2 rfl⟩
   refine ⟨?_, ((hf2.mono hown).trans hf3 (fun b _ h => .inl ⟨fun h' => h.1 (.inl h'), h.2⟩)).trans hf4 (fun b o h => .inl (hown b o h)), hI _ _ _ _ _ hi3 (hf4.mono (fun k _ h => .inr (.inr h))) (fun k h => .inl h), World.putObj_heap_same (Array.getElem?_eq_some_iff.1 hl3).1, (World.putObj_heap_other (by omega)).trans hk3⟩
   rw [hr, hrec]
  rintro e a3 W3 hp
  cases e with
  | normal =>
   obtain ⟨hr, q1, q2, q3, q4⟩ := fin hI none W3 hp.1 hp.2
   exact ⟨_, _, hr, q1, rfl, q2, q3, q4, n1, n2⟩
  | ret => exact hp.2.elim
  | exit id => exact hp.2.elim
  | goto t => exact hp.2.elim
  | panic ch => exact hp.elim
  | outgrown => exact hp.elim
 ·-- behind the iterator
  rintro e W2 ⟨⟨v, rfl⟩, K, hK, xs, hfin, hi, hl, hk, n1, n2⟩
  ·refine ⟨none, _, (by have := run_endLoop (P := P) hl (by rw [hrec]; simp); rw [hrec] at this; exact this), ?_⟩
   have hf4 := Fr.putObj W2 (s0 + 1) (.loop { rec .ready none with state := .exhausted })
   rw [hrec] at hf4
   exact hdone s0 _ xs _ hfin (hI _ _ _ _ _ hi (hf4.mono (fun k _ h => .inr (.inr h))) (fun k h => .inl h)) (fun k h => .inl (hK k h)) (.inr (.inl rfl)) (by omega) ((World.putObj_heap_other (by omega)).trans hk)
end
end Go.Proofs.YtecnijnmgdfdhaaGreat
