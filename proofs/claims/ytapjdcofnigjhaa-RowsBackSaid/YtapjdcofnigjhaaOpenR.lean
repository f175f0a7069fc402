/- What comes in: bounds. -/
import Derived.Test.YtapjdcofnigjhaaOpen
import Derived.Test.YtapjdcofnigjhaaRows4
namespace Go.Proofs.Ytapjdcofnigjhaa
theorem fin_of_wf {n : Int} (h : (Lit.int .i64 n).wf = true) : Fd.In n := by
  simp [Lit.wf, IntKind.min, IntKind.max, IntKind.signed, IntKind.bits] at h
  unfold Fd.In
  omega
theorem text_list (s : ByteArray) : s = ⟨s.data.toList.toArray⟩ := by rw [Array.toArray_toList]
end Go.Proofs.Ytapjdcofnigjhaa
