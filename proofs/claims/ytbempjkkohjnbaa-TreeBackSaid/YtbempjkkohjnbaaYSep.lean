/- Joined: RegH. -/
import Derived.OrdersHeld
import Derived.Deep.RegionHeld
/- A drawn region walked by hand: what holds may be strengthened in its midst. Over any program. -/
namespace Go.Proofs.Ytbempjkkohjnbaa
theorem wpAnyH_mono {P : Program} {md : Region.Mode} {ops : Array Oper} {Q : Exit → Act → World → Prop} {S S' : World → Prop} (hSS : ∀ w, S' w → S w) :
    ∀ (fuel : Nat) (listed : Array Bool) (a : Act) (w : World), wpAnyH P md ops Q S' fuel listed a w → wpAnyH P md ops Q S fuel listed a w
  | 0, _, _, _, h => h
  | fuel + 1, _, _, _, h => ⟨h.1, fun i hi => wpOp_mono (fun _ _ h' => ⟨hSS _ h'.1, wpAnyH_mono hSS fuel _ _ _ h'.2⟩) (h.2 i hi)⟩

end Go.Proofs.Ytbempjkkohjnbaa
