/- Joined: Cur1. -/
import Derived.Test.YtecnijnmgdfdhaaGreatYTreeE
import Derived.Test.YtecnijnmgdfdhaaGreatYTr
/- A cursor: New, Next, Seek. -/
namespace Go.Proofs.YtecnijnmgdfdhaaGreat
open Go.RowKit Tr
open Ky (less)

theorem str_gtr (t : TypeId) (a b : List UInt8) : binOp .gtr t (.string ⟨a.toArray⟩) (.string ⟨b.toArray⟩) = pure (.bool (Op.bytesLess b a)) := by
  have h : (!(Op.bytesLess a b || a == b)) = Op.bytesLess b a := by
    rcases Ky.less_trich a b with h | h | h
    · subst h; simp [Ky.less_self]
    · simp [h, Ky.less_asymm h]
    · have hne : (a == b) = false := by
        rw [beq_eq_false_iff_ne]; rintro rfl; rw [Ky.less_self] at h; cases h
      simp [h, Ky.less_asymm h, hne]
  simp only [binOp, Op.stringOp, list_of, h]
theorem cat_run (t : TypeId) (a b : List UInt8) (h : a.length + b.length ≤ 9223372036854775807) : binOp .add t (.string ⟨a.toArray⟩) (.string ⟨b.toArray⟩) = pure (.string ⟨(a ++ b).toArray⟩) := by
  have hsz : ∀ l : List UInt8, (⟨l.toArray⟩ : ByteArray).size = l.length := fun l => by simp [ByteArray.size]
  have happ : (⟨a.toArray⟩ : ByteArray) ++ ⟨b.toArray⟩ = ⟨(a ++ b).toArray⟩ := by
    apply ByteArray.ext
    simp
  have hm : IntKind.i64.max = 9223372036854775807 := by decide
  simp only [binOp, Op.stringOp, hsz, hm, happ]
  rw [if_neg (by omega)]
/-- A cursor in memory. -/
structure CurAt (w : World) (c b : Nat) (s t at_ : Str) : Prop where
  c0 : w.cell? ⟨c, 0, none⟩ = some (ptrV b)
  c1 : w.cell? ⟨c, 1, none⟩ = some (.string ⟨s.toArray⟩)
  c2 : w.cell? ⟨c, 2, none⟩ = some (.string ⟨t.toArray⟩)
  c3 : w.cell? ⟨c, 3, none⟩ = some (.string ⟨at_.toArray⟩)
  f3 : w.frozen? ⟨c, 3, none⟩ = false
theorem CurAt.fr {S : Foot} {w w' : World} {c b : Nat} {s t at_ : Str} (k : CurAt w c b s t at_) (hf : Fr S w w') (hd : ∀ x, ¬ S c x) : CurAt w' c b s t at_ := by
  have hb := block_of_cell k.c0
  exact ⟨(hf.cell _ _ hb (hd _)).trans k.c0, (hf.cell _ _ hb (hd _)).trans k.c1, (hf.cell _ _ hb (hd _)).trans k.c2, (hf.cell _ _ hb (hd _)).trans k.c3, (hf.froz _ _ hb (hd _)).trans k.f3⟩
theorem CurAt.later {w w' : World} {c b : Nat} {s t at_ : Str} (k : CurAt w c b s t at_) (hb : Below w.heap.size w w') : CurAt w' c b s t at_ := k.fr (Fr.ofBelow hb noCells) (fun _ h => h)
theorem CurAt.go {w : World} {c b : Nat} {s t at_ : Str} (k : CurAt w c b s t at_) (to : Str) : CurAt (w.setCell ⟨c, 3, none⟩ (.string ⟨to.toArray⟩)) c b s t to := by
  refine ⟨?_, ?_, ?_, World.cell?_setCell_same' _ _ _ (by rw [k.c3]; rfl), by rw [World.frozen?_setCell]; exact k.f3⟩
  · rw [World.cell?_setCell_other _ _ _ _ (by simp)]; exact k.c0
  · rw [World.cell?_setCell_other _ _ _ _ (by simp)]; exact k.c1
  · rw [World.cell?_setCell_other _ _ _ _ (by simp)]; exact k.c2
end Go.Proofs.YtecnijnmgdfdhaaGreat
