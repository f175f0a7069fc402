/- Package proc: number. -/
import Derived.Test.YtgoegdlhbadlfaaDoorPr8
import Derived.Lib.AtoiBound
import Derived.Lib.AtoiErrMem
namespace Go.Proofs.YtgoegdlhbadlfaaDoor
namespace Pc
open Go.RowKit Go.Sort
/-- The number that is written so. -/
def numP (s : Str) : Option Int :=
  if 15 < (Lib.trimPrefix s [45]).length then none else match Lib.atoi s with
    | some n => if Lib.itoa n = s then some n else none
    | none => none
theorem below_gr (w : World) (k : Nat) (os : Array Obj) : Below w.heap.size w (grow (w.drewN k) os) := by
  refine ⟨rfl, rfl, rfl, ?_, fun i hi => ?_⟩
  · show w.heap.size ≤ (w.heap ++ os).size
    simp
  · show (w.heap ++ os)[i]? = _
    rw [Array.getElem?_append_left hi]
theorem trim_len (s : Str) (h : (Lib.trimPrefix s [45]).length ≤ 15) : s.length ≤ 16 := by
  unfold Lib.trimPrefix at h
  split at h
  · rw [List.length_drop] at h
    simp only [List.length_cons, List.length_nil] at h
    omega
  · omega
set_option maxHeartbeats 1000000 in
theorem number_any (s : Str) (w : World) (hL : Laid w) : Calls Tryd.prog 30 #[.string ⟨s.toArray⟩] w fun e V => e = .returned (.tuple #[.int .i64 ((numP s).getD 0), .bool (numP s).isSome]) ∧ Below w.heap.size w V := by
  have hG := hL.size
  have HL := Lib.hid hL
  clear hL
  have e1 : (⟨s.toArray⟩ : ByteArray).data.toList = s := by simp
  have HT : Hid (∀ W, Calls Tryd.prog 39 #[.string ⟨s.toArray⟩, .string ⟨#[45]⟩] W fun e V => e = .returned (.string ⟨(Lib.trimPrefix s [45]).toArray⟩) ∧ W = V) := Lib.hid (fun W => by
    have := Sh.strings_TrimPrefix ⟨s.toArray⟩ ⟨#[45]⟩ W
    rw [e1] at this
    refine this.mono ?_
    rintro e V ⟨rfl, rfl⟩
    exact ⟨rfl, rfl⟩)
  by_cases h15 : 15 < (Lib.trimPrefix s [45]).length
  · have HN : Hid (numP s = none) := Lib.hid (by unfold numP; rw [if_pos h15])
    have hsz : (⟨(Lib.trimPrefix s [45]).toArray⟩ : ByteArray).size = (Lib.trimPrefix s [45]).length := by show (Lib.trimPrefix s [45]).toArray.size = _; simp
    rw [HN.out]
    go_enter Tryd.func30, Tryd.ntmps30
    go_wp2_with (go_at_call 39; refine (HT.out _).mono ?_; rintro _ W ⟨rfl, rfl⟩)
    go_ret2
    exact ⟨rfl, Below.refl _ _⟩
  · have hsz : (⟨(Lib.trimPrefix s [45]).toArray⟩ : ByteArray).size = (Lib.trimPrefix s [45]).length := by show (Lib.trimPrefix s [45]).toArray.size = _; simp
    have h16 := trim_len s (by omega)
    have hs18 : (⟨s.toArray⟩ : ByteArray).size ≤ 18 := by show s.toArray.size ≤ 18; simp; omega
    cases ha : Lib.atoi s with
    | none =>
      have HN : Hid (numP s = none) := Lib.hid (by unfold numP; rw [if_neg h15, ha])
      obtain ⟨tp, p, hv⟩ := HL.out.err
      have HA : Hid (∀ W, Below w.heap.size w W → Calls Tryd.prog 40 #[.string ⟨s.toArray⟩] W fun e V => ∃ N, e = .returned (.tuple #[.int .i64 0, .iface 107 (.pointer (some ⟨N, 0, none⟩))]) ∧ Below W.heap.size W V) := Lib.hid (fun W hb => by
        refine (Sh.strconv_Atoi_err_var ⟨s.toArray⟩ hs18 (by rw [e1]; exact ha) tp p W (by rw [var_below hb gErr (Nat.lt_of_lt_of_le (by decide) hG)]; exact hv)).mono ?_
        rintro e V ⟨N, rfl, _, _, hb⟩
        exact ⟨N, rfl, hb⟩)
      rw [HN.out]
      clear ha hv
      go_enter Tryd.func30, Tryd.ntmps30
      go_wp2_with (first
        | (go_at_call 39; refine (HT.out _).mono ?_; rintro _ W ⟨rfl, rfl⟩)
        | (go_at_call 40; refine (HA.out _ (Below.refl _ _)).mono ?_; rintro _ W ⟨N, rfl, hbW⟩; have HW := Lib.hid hbW; clear hbW))
      go_ret2
      exact ⟨rfl, HW.out⟩
    | some n =>
      have hbd := Lib.atoi_bound ha (by omega)
      have HA : Hid (∀ W, Calls Tryd.prog 40 #[.string ⟨s.toArray⟩] W fun e V => e = .returned (.tuple #[.int .i64 n, .nilIface]) ∧ Below W.heap.size W V) := Lib.hid (fun W => by
        refine (Sh.strconv_Atoi ⟨s.toArray⟩ n hs18 (by rw [e1]; exact ha) W).mono ?_
        rintro e V ⟨rfl, t, rfl⟩
        exact ⟨rfl, Lib.bytesWorld_below W 5 t⟩)
      have HI : Hid (∀ W, Below w.heap.size w W → Calls Tryd.prog 15 #[.int .i64 n] W fun e V => e = .returned (.string ⟨(Lib.itoa n).toArray⟩) ∧ Below W.heap.size W V) := Lib.hid (fun W hb => by
        refine (Sh.strconv_Itoa n (by omega) (by omega) W (HL.out.later hb hG).pow).mono ?_
        rintro e V ⟨rfl, k, os, rfl⟩
        exact ⟨rfl, below_gr W k os⟩)
      have hq := fun t => str_neq t (Lib.itoa n) s
      by_cases hi : Lib.itoa n = s
      · have HN : Hid (numP s = some n) := Lib.hid (by unfold numP; rw [if_neg h15, ha]; simp only; rw [if_pos hi])
        rw [beq_iff_eq.2 hi] at hq
        rw [HN.out]
        clear ha hi
        go_enter Tryd.func30, Tryd.ntmps30
        go_wp2_with (first
          | (go_at_call 39; refine (HT.out _).mono ?_; rintro _ W ⟨rfl, rfl⟩)
          | (go_at_call 40; refine (HA.out _).mono ?_; rintro _ W ⟨rfl, hbW⟩; have HW := Lib.hid hbW; clear hbW)
          | (go_at_call 15; refine (HI.out _ HW.out).mono ?_; rintro _ U ⟨rfl, hbU⟩; have HU := Lib.hid hbU; clear hbU))
        go_ret2
        exact ⟨rfl, HW.out.trans (HU.out.mono HW.out.size)⟩
      · have HN : Hid (numP s = none) := Lib.hid (by unfold numP; rw [if_neg h15, ha]; simp only; rw [if_neg hi])
        rw [beq_eq_false_iff_ne.2 hi] at hq
        rw [HN.out]
        clear ha hi
        go_enter Tryd.func30, Tryd.ntmps30
        go_wp2_with (first
          | (go_at_call 39; refine (HT.out _).mono ?_; rintro _ W ⟨rfl, rfl⟩)
          | (go_at_call 40; refine (HA.out _).mono ?_; rintro _ W ⟨rfl, hbW⟩; have HW := Lib.hid hbW; clear hbW)
          | (go_at_call 15; refine (HI.out _ HW.out).mono ?_; rintro _ U ⟨rfl, hbU⟩; have HU := Lib.hid hbU; clear hbU))
        go_ret2
        exact ⟨rfl, HW.out.trans (HU.out.mono HW.out.size)⟩
end Pc
end Go.Proofs.YtgoegdlhbadlfaaDoor
