/- Package proc: parse. -/
import Derived.Test.YtgoegdlhbadlfaaDoorPr10
namespace Go.Proofs.YtgoegdlhbadlfaaDoor
namespace Pc
open Go.RowKit
theorem splitK_pos (sep : Str) (save : Nat) : ∀ (k : Nat) (s : Str), 1 ≤ (Lib.splitK sep save k s).length
  | 0, _ => Nat.le_refl _
  | k + 1, s => by
    unfold Lib.splitK
    split <;> simp
theorem splitN_any (s : Str) (hs : s.length ≤ 1000000) (w : World) (hL : Laid w) :
    Calls Tryd.prog 28 #[.string ⟨s.toArray⟩, .string ⟨#[32]⟩, .int .i64 6] w fun e V => ∃ c, e = .returned (.slice (some ⟨w.heap.size, 0, none⟩) (partsP s).length c) ∧ (partsP s).length ≤ c ∧
      (∀ (i : Nat) p, (partsP s)[i]? = some p → V.cell? ⟨w.heap.size, i, none⟩ = some (.string ⟨p.toArray⟩)) ∧ Below w.heap.size w V ∧ V.heap.size = w.heap.size + 1 := by
  obtain ⟨m, hm⟩ := hL.most
  have hz : (⟨s.toArray⟩ : ByteArray).size = s.length := by show s.toArray.size = _; simp
  have hd : (Lib.splitB ⟨#[32]⟩ 0 (min 6 ((⟨s.toArray⟩ : ByteArray).size + 1) - 1) ⟨s.toArray⟩).map (·.data.toList) = partsP s := by
    rw [Lib.splitB_data, hz]; unfold partsP; simp
  have hlen := congrArg List.length hd
  rw [List.length_map] at hlen
  refine (Sh.strings_SplitN ⟨s.toArray⟩ ⟨#[32]⟩ 6 m w (by rw [hz]; omega) hm (by decide) (by omega) (by omega)).mono ?_
  rintro e V ⟨rfl, rfl⟩
  have hle := Lib.splitB_length_le ⟨#[32]⟩ 0 (min 6 ((⟨s.toArray⟩ : ByteArray).size + 1) - 1) ⟨s.toArray⟩
  refine ⟨_, by rw [hlen], by rw [← hlen]; omega, fun i p hp => ?_, al1 _ _, by simp⟩
  rw [← hd, List.getElem?_map] at hp
  obtain ⟨q, hq, rfl⟩ := Option.map_eq_some_iff.1 hp
  simp [Lib.cellsOf]
  rw [List.getElem?_append_left (by rw [List.length_map]; exact (List.getElem?_eq_some_iff.1 hq).1), List.getElem?_map, hq]
  rfl
theorem cut_any (s : Str) (hs : s.length ≤ 1000000) (w : World) : Calls Tryd.prog 27 #[.string ⟨s.toArray⟩, .string ⟨#[10]⟩] w fun e V => e = .returned (.tuple #[.string ⟨(Lib.trimSuffix s [10]).toArray⟩, .bool (Lib.hasSuffix s [10])]) ∧ w = V := by
  have hz : (⟨s.toArray⟩ : ByteArray).size = s.length := by show s.toArray.size = _; simp
  refine (Sh.strings_CutSuffix ⟨s.toArray⟩ ⟨#[10]⟩ w (by rw [hz]; omega)).mono ?_
  rintro e V ⟨rfl, rfl⟩
  exact ⟨by simp, rfl⟩
def zeroP : OpP := (0, 0, 0, 0, 0)
/-- What parse answers. -/
def ansP (o : Option OpP) : Value := .tuple #[.agg (opV (o.getD zeroP)).toArray, .bool o.isSome]
theorem parse_short (line : Str) (hs : line.length ≤ 1000000) (w : World) (h : Lib.hasSuffix line [10] = false) :
    Calls Tryd.prog 18 #[.string ⟨line.toArray⟩] w fun e V => e = .returned (ansP (parseP line)) ∧ Below w.heap.size w V := by
  have hp : parseP line = none := by unfold parseP; rw [h]; rfl
  have HC := Lib.hid (fun W => cut_any line hs W)
  rw [hp]
  rw [h] at HC
  clear hp
  go_enter Tryd.func18, Tryd.ntmps18
  go_wp2_with (go_at_call 27; refine (HC.out _).mono ?_; rintro _ W ⟨rfl, rfl⟩)
  go_returns
  trace_state
  exact ⟨rfl, (al1 _ _)⟩
end Pc
end Go.Proofs.YtgoegdlhbadlfaaDoor
