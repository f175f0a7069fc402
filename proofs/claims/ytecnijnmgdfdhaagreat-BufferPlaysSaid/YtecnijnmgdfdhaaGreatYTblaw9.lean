/- Joined: Tblaw9. -/
import Derived.Test.YtecnijnmgdfdhaaGreatYLawB
import Derived.Test.YtecnijnmgdfdhaaGreatYTr
namespace Go.Proofs.YtecnijnmgdfdhaaGreat
namespace Tb
open Go.RowKit Tr
open Ky (less)
section
variable {L M : List Pr} {k j : Str} {q : R4} {most : Nat}
end
end Tb
end Go.Proofs.YtecnijnmgdfdhaaGreat
