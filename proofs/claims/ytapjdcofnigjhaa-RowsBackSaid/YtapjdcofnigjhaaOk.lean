/- Texts; keys.Check. -/
import Derived.Test.YtapjdcofnigjhaaProg
import Derived.Test.YtapjdcofnigjhaaKit
import Derived.Test.YtapjdcofnigjhaaKy
import Derived.Handy
import Derived.Lib.Strings
namespace Go.Proofs.Ytapjdcofnigjhaa
open Go.RowKit

theorem ret_bool {a b : Bool} (h : a = b) : Ending.returned (.bool a) = .returned (.bool b) := by rw [h]
theorem list_of (a : List UInt8) : (⟨a.toArray⟩ : ByteArray).toList = a := by rw [Lib.toList_data]
theorem str_lss (t : TypeId) (a b : List UInt8) : binOp .lss t (.string ⟨a.toArray⟩) (.string ⟨b.toArray⟩) = pure (.bool (Op.bytesLess a b)) := by
  simp [binOp, Op.stringOp, list_of]
theorem str_gtr (t : TypeId) (a b : List UInt8) : binOp .gtr t (.string ⟨a.toArray⟩) (.string ⟨b.toArray⟩) = pure (.bool (Op.bytesLess b a)) := by
  have h : (!(Op.bytesLess a b || a == b)) = Op.bytesLess b a := by
    rcases Ky.less_trich a b with h | h | h
    · subst h; simp [Ky.less_self]
    · simp [h, Ky.less_asymm h]
    · have hne : (a == b) = false := by
        rw [beq_eq_false_iff_ne]; rintro rfl; rw [Ky.less_self] at h; cases h
      simp [h, Ky.less_asymm h, hne]
  simp only [binOp, Op.stringOp, list_of, h]
theorem str_leq (t : TypeId) (a b : List UInt8) : binOp .leq t (.string ⟨a.toArray⟩) (.string ⟨b.toArray⟩) = pure (.bool (!Op.bytesLess b a)) := by
  have h : (Op.bytesLess a b || a == b) = !Op.bytesLess b a := by
    rcases Ky.less_trich a b with h | h | h
    · subst h; simp [Ky.less_self]
    · simp [h, Ky.less_asymm h]
    · have hne : (a == b) = false := by
        rw [beq_eq_false_iff_ne]; rintro rfl; rw [Ky.less_self] at h; cases h
      simp [h, Ky.less_asymm h, hne]
  simp only [binOp, Op.stringOp, list_of, h]
theorem str_geq (t : TypeId) (a b : List UInt8) : binOp .geq t (.string ⟨a.toArray⟩) (.string ⟨b.toArray⟩) = pure (.bool (!Op.bytesLess a b)) := by
  simp [binOp, Op.stringOp, list_of]
theorem str_eql (t : TypeId) (a b : List UInt8) : binOp .eql t (.string ⟨a.toArray⟩) (.string ⟨b.toArray⟩) = pure (.bool (a == b)) := by
  simp [binOp, Op.stringOp, list_of]
/-- '+' of two texts. -/
theorem cat_run (t : TypeId) (a b : List UInt8) (h : a.length + b.length ≤ 9223372036854775807) : binOp .add t (.string ⟨a.toArray⟩) (.string ⟨b.toArray⟩) = pure (.string ⟨(a ++ b).toArray⟩) := by
  have hsz : ∀ l : List UInt8, (⟨l.toArray⟩ : ByteArray).size = l.length := fun l => by simp [ByteArray.size]
  have happ : (⟨a.toArray⟩ : ByteArray) ++ ⟨b.toArray⟩ = ⟨(a ++ b).toArray⟩ := by
    apply ByteArray.ext
    simp
  have hm : IntKind.i64.max = 9223372036854775807 := by decide
  simp only [binOp, Op.stringOp, hsz, hm, happ]
  rw [if_neg (by omega)]
/-- Is a text a key? -/
def okKey (k : List UInt8) : Bool := decide (1 ≤ k.length ∧ k.length ≤ 16)
/-- What Check answers. -/
def chk (k : List UInt8) : Int := if okKey k then 0 else 13

set_option maxHeartbeats 400000 in
theorem check_any (k : List UInt8) (w : World) :
    Calls Try.prog 39 #[.string ⟨k.toArray⟩] w fun e w' => e = .returned (.int .i64 (chk k)) ∧ w = w' := by
  by_cases h1 : k.length < 1
  · have hc : chk k = 13 := by unfold chk okKey; simp; omega
    rw [hc]
    clear hc
    go_enter Try.func39, Try.ntmps39
    go_wp2
    go_ret
    exact ⟨rfl, rfl⟩
  by_cases h2 : 16 < k.length
  · have hc : chk k = 13 := by unfold chk okKey; simp; omega
    rw [hc]
    clear hc
    go_enter Try.func39, Try.ntmps39
    go_wp2
    go_ret
    exact ⟨rfl, rfl⟩
  · have hc : chk k = 0 := by unfold chk okKey; simp; omega
    rw [hc]
    clear hc
    go_enter Try.func39, Try.ntmps39
    go_wp2
    go_ret
    exact ⟨rfl, rfl⟩

end Go.Proofs.Ytapjdcofnigjhaa
