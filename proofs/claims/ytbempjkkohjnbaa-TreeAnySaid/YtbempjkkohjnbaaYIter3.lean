/- Joined: Iter3. -/
import Derived.Test.YtbempjkkohjnbaaYTreeF
import Derived.Test.YtbempjkkohjnbaaYTreeA
import Derived.Test.YtbempjkkohjnbaaYSep
/- A region that draws its order, in a round: what holds of it outside of rounds holds within. Over any program. -/
namespace Go.Proofs.Ytbempjkkohjnbaa
open Go.RowKit
section
variable {P : Program} {ops : Array Oper} {md : Region.Mode} {n : Nat} {Q : Exit → Act → World → Prop} {l : Nat}
theorem rows_round {row : String} {args : Array Value} {w : World} {R : Value → World → Prop} (h : Rows P row args w R) : RowsIn (Fence.wide.inRound l) n P row args w R :=
  fun c cs _ => let ⟨v, w', r, s⟩ := h c cs; ⟨v, w', r, stepsIn_wide.2 s⟩
theorem opIn_of_wp {o : Oper} {a : Act} {w : World} {K K' : Act → World → Prop} (hd : ∀ c, o.op ≠ .defer c) (hk : ∀ a w, K a w → K' a w) (h : o.wp P a w K Q) : o.wpIn (Fence.wide.inRound l) n P a w K' Q := by
  refine ⟨fun f _ => trivial, ?_⟩
  rw [sem_round hd]
  unfold Oper.wp at h
  generalize (execOp a.eval o).run P w = r at *
  cases r with
  | ok x w' =>
    cases x <;> simp only [Oper.upon] at h <;> simp only [Oper.uponIn]
    case value u => exact hk _ _ h
    case skip => exact hk _ _ h
    case defer d => exact hk _ _ h
    case enter f args =>
      refine ⟨fun hs => (by cases hs), calls_round l (h.mono fun e w'' he => ?_)⟩
      cases e with
      | returned v => exact hk _ _ he
      | panicked c => exact he
      | outgrown => exact he
    case row row args => exact ⟨fun hs => (by cases hs), rows_round (h.mono fun v w'' he => hk _ _ he)⟩
  | halt x w' =>
    cases x <;> simp only [Oper.upon] at h <;> simp only [Oper.uponIn] <;> exact h
theorem opsIn_of_wp {l' : List Oper} {i : Nat} {a : Act} {w : World} {K K' : Act → World → Prop} (hnd : noDefer l' = true) (hl : ¬ LetsOut Q) (hk : ∀ a w, K a w → K' a w) (h : wpOp P l'.toArray Q i K a w) : wpOpIn (Fence.wide.inRound l) n P l'.toArray Q i K' a w := by
  unfold wpOp at h
  unfold wpOpIn
  split
  · rename_i ho; simp only [ho] at h; exact hk _ _ h
  · rename_i o ho
    simp only [ho] at h
    have hm : o ∈ l' := by
      have := Array.mem_of_getElem? ho
      simpa using this
    split
    · rename_i hw
      simp only [hw, if_true] at h
      rcases h with h | ⟨_, h⟩
      · exact opIn_of_wp (noDefer_spec hnd hm) hk h
      · exact absurd h hl
    · rename_i hw; simp only [hw] at h; exact ⟨fun f _ => trivial, hk _ _ h⟩
theorem anyIn_of_any {l' : List Oper} (hnd : noDefer l' = true) (hl : ¬ LetsOut Q) : ∀ (f : Nat) (listed : Array Bool) (a : Act) (w : World), wpAny P md l'.toArray Q f listed a w → wpAnyIn (Fence.wide.inRound l) n P md l'.toArray Q f listed a w
  | 0, _, _, _, h => h
  | _ + 1, _, _, _, h => ⟨h.1, fun i hi => opsIn_of_wp hnd hl (fun a' w' h' => anyIn_of_any hnd hl _ _ a' w' h') (h.2 i hi)⟩
theorem wpIn_region_any' {id : Nat} {l' : List Oper} {a : Act} {w : World} (hnd : noDefer l' = true) (hm : P.follows .mixedOrders = true) (hl : ¬ LetsOut Q)
    (h : wpAny P .any l'.toArray Q l'.toArray.size (Array.replicate l'.toArray.size false) a { w with drawn := w.drawn + 1 }) : (Code.region id l'.toArray true).wpIn (Fence.wide.inRound l) n P Q a w :=
  wpIn_region_any hm (anyIn_of_any hnd hl _ _ _ _ h)
/-- 'wp_region_till' in a round. -/
theorem wpIn_region_till {id : Nat} {l' : List Oper} {a : Act} {w : World} (m : Nat) (S : World → Prop) (hnd : noDefer l' = true) (hl : ¬ LetsOut Q) (hm : P.follows .mixedOrders = true) (hS : S w.drew)
    (h : S w.drew → wpTill P .any l'.toArray Q S m l'.toArray.size (Array.replicate l'.toArray.size false) a w.drew) : (Code.region id l'.toArray true).wpIn (Fence.wide.inRound l) n P Q a w :=
  wpIn_region_any' hnd hm hl (wpAny_of_till _ _ _ _ (h hS))
/-- A piece of code that ends as usual: what else may come of it needs no word. -/
def onlyK (K : Act → World → Prop) : Exit → Act → World → Prop
  | .normal, a, w => K a w
  | _, _, _ => False
theorem wp_only {c : Code} {a : Act} {w : World} (h : c.wp P (onlyK (Q .normal)) a w) : c.wp P Q a w :=
  wp_mono h (fun e _ _ h => by cases e <;> first | exact h | exact h.elim)
theorem wpIn_only {F : Fence} {c : Code} {a : Act} {w : World} (h : c.wpIn F n P (onlyK (Q .normal)) a w) : c.wpIn F n P Q a w :=
  wpIn_mono h (fun e _ _ h => by cases e <;> first | exact h | exact h.elim)
end
end Go.Proofs.Ytbempjkkohjnbaa
