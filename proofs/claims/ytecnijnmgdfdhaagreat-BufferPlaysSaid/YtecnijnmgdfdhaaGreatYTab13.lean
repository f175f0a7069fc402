/- Joined: Tab13. -/
import Derived.Test.YtecnijnmgdfdhaaGreatYTabD
namespace Go.Proofs.YtecnijnmgdfdhaaGreat
namespace Tb
open Go.RowKit Tr
open Ky (less)
attribute [local go_sem] Oper.semAt_some
theorem Boxd.below {v : Value} {W0 W1 : World} {Bx B : Nat} {K : Nat → Prop} {pre : List Pr} (h : Boxd (fun _ : List Pr => v) W0 Bx K pre W1) (hB : B ≤ W0.heap.size) (hB2 : B ≤ Bx) : Below B W0 W1 :=
 h.2.2.1.below hB (fun k _ e => by rw [e]; exact hB2)
section
variable {B : Nat} {w0 w V : World} {X Y : List Rs} {tb most o t1 m1 o1 t2 m2 o2 : Nat} {L L1 L2 : List Pr}
end
end Tb
end Go.Proofs.YtecnijnmgdfdhaaGreat
