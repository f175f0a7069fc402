/- A world for the witness: each listed variable holds what its initialiser lays. -/
import Derived.Test.YtgoegdlhbadlfaaDoorPrLaid
import Derived.Deep.DeepHandedRow
namespace Go.Proofs.YtgoegdlhbadlfaaDoor
namespace Pc
open Go.RowKit Go.ChangeShapes
def flat1 : DataW Unit → List Value
  | .lit (.int k n) => [.int k n]
  | .lit (.string s) => [.string ⟨s.toArray⟩]
  | _ => []
def flat2 : DataW Unit → List Value
  | .agg l => l.flatMap flat1
  | d => flat1 d
def flat3 : DataW Unit → List Value
  | .agg l => l.flatMap flat2
  | d => flat1 d
abbrev synS : ByteArray := { data := #[105, 110, 118, 97, 108, 105, 100, 32, 115, 121, 110, 116, 97, 120] }
abbrev rngS : ByteArray := { data := #[118, 97, 108, 117, 101, 32, 111, 117, 116, 32, 111, 102, 32, 114, 97, 110, 103, 101] }
/-- So many blocks has the settled world. -/
noncomputable def low : Nat := (World.holding Tryd.prog default ⟨#[], #[], []⟩).heap.size
def putObj (vs : List Value) : Obj → Obj
  | .cells _ t frozen => .cells vs.toArray t frozen
  | o => o
/-- The settled world, each listed variable holding what is listed, the two errors in blocks of their own. -/
noncomputable def laidWorld (os : Os) : World :=
  let w0 := World.holding Tryd.prog os ⟨#[.cells #[.string synS] 129, .cells #[.string rngS] 129], #[], []⟩
  { w0 with heap := (((((((w0.heap.modify 3 (putObj [.iface 127 (.pointer (some ⟨low, 0, none⟩))])).modify 4 (putObj [.iface 127 (.pointer (some ⟨low + 1, 0, none⟩))])).modify 0 (putObj (flat3 Rows.laid_breviary_proc_shapes))).modify 1 (putObj (flat3 Rows.laid_internal_strconv_uint64pow10))).modify 5 (putObj (flat3 Rows.laid_math_bits_deBruijn32tab))).modify 6 (putObj (flat3 Rows.laid_math_bits_deBruijn64tab))).modify 7 (putObj (flat3 Rows.laid_unicode_utf8_first))).modify 8 (putObj (flat3 Rows.laid_unicode_utf8_acceptRanges)) }
theorem laid_met (os : Os) (args : Array Value) : laidMet Tryd.prog listP ((laidWorld os).forCall (fun _ _ => 0) ⟨#[], args, []⟩).memory :=
  laidMet_of_run' 8 (by kernel_rfl) (by kernel_rfl)
end Pc
end Go.Proofs.YtgoegdlhbadlfaaDoor
