/- The walks of package keys, fourth part: the checker's Compare, Bounds, awake. -/
import Derived.Test.YtakgpljpdcjmfaaKeysWalks3
namespace Go.Proofs.Ytakgpljpdcjmfaa
open Go.RowKit

theorem split_at {s : List UInt8} {k : Nat} {a : UInt8} (h : s[k]? = some a) : s = s.take k ++ a :: s.drop (k + 1) := by
  obtain ⟨hk, rfl⟩ := List.getElem?_eq_some_iff.1 h
  rw [← List.drop_eq_getElem_cons hk, List.take_append_drop]
theorem less_at {s t : List UInt8} {k : Nat} {a b : UInt8} (hp : s.take k = t.take k) (ha : s[k]? = some a) (hb : t[k]? = some b) (h : a.toNat < b.toNat) : Ky.less s t = true := by
  rw [split_at ha, split_at hb, hp, Ky.less_append _ _ _ _ rfl]
  simp [Op.bytesLess, UInt8.lt_iff_toNat_lt, h]
theorem cmpS_lt {s t : List UInt8} {k : Nat} {a b : UInt8} (hp : s.take k = t.take k) (ha : s[k]? = some a) (hb : t[k]? = some b) (h : a.toNat < b.toNat) : Ky.cmpS s t = -1 := by
  unfold Ky.cmpS
  rw [if_pos (less_at hp ha hb h)]
theorem cmpS_gt {s t : List UInt8} {k : Nat} {a b : UInt8} (hp : s.take k = t.take k) (ha : s[k]? = some a) (hb : t[k]? = some b) (h : b.toNat < a.toNat) : Ky.cmpS s t = 1 := by
  have h1 := less_at hp.symm hb ha h
  unfold Ky.cmpS
  rw [if_neg (by rw [Ky.less_asymm h1]; decide), if_pos h1]
theorem less_short {s t : List UInt8} {k : Nat} (hp : s.take k = t.take k) (hs : k = s.length) (h : s.length < t.length) : Ky.less s t = true := by
  subst hs
  have e : t = s ++ t.drop s.length := by
    have := List.take_append_drop s.length t
    rw [← hp, List.take_length] at this
    exact this.symm
  have hne : t.drop s.length ≠ [] := by
    intro h0
    have := congrArg List.length h0
    rw [List.length_drop, List.length_nil] at this
    omega
  rw [e]
  conv => lhs; arg 1; rw [← List.append_nil s]
  rw [Ky.less_append _ _ _ _ rfl, Ky.less_self, Ky.less_nil_left]
  cases h0 : t.drop s.length with
  | nil => exact absurd h0 hne
  | cons _ _ => simp

theorem idx_run {s : List UInt8} {k : Nat} {b : UInt8} (h : s[k]? = some b) (w : World) : (Instr.index 9 (.string ⟨s.toArray⟩) (.int .i64 (k : Int))).run Try.prog w = .ok (.int .u8 b.toNat) w := by
  obtain ⟨hk, rfl⟩ := List.getElem?_eq_some_iff.1 h
  have hsz : (⟨s.toArray⟩ : ByteArray).size = s.length := by simp [ByteArray.size]
  rw [run_index_string w 9 _ .i64 k Try.underlying9, dif_pos (by rw [hsz]; omega)]
  congr 3

set_option maxRecDepth 100000 in
set_option maxHeartbeats 1000000 in
theorem refCompare (v : Int) (s : List UInt8) (x : Int) (t : List UInt8) (hsl : s.length ≤ 1000000) (w : World) :
    Calls Try.prog 17 #[.int .i64 v, .string ⟨s.toArray⟩, .int .i64 x, .string ⟨t.toArray⟩] w fun e w' => e = .returned (.int .i64 (Ky.cmpE v s x t)) ∧ ∃ n, w' = w.drewN n := by
  by_cases hv : v = x
  · subst hv
    have hd : (v != v) = false := by simp
    have he : Ky.cmpE v s v t = Ky.cmpS s t := by unfold Ky.cmpE; simp
    rw [he]
    clear he
    go_enter Try.func17, Try.ntmps17
    go_wp2
    go_loopw [9] (fun i wr => ∃ k nd : Nat, k ≤ s.length ∧ k ≤ t.length ∧ i = .int .i64 k ∧ wr = w.drewN nd ∧ Hid (s.take k = t.take k)) (fun i _ => s.length - (intOf i).toNat)
    case atStart => exact ⟨0, 0, Nat.zero_le _, Nat.zero_le _, rfl, rfl, Lib.hid rfl⟩
    case round =>
      obtain ⟨k, nd, hk, hk2, rfl, rfl, Heq⟩ := hrel
      by_cases h1 : k < s.length
      · by_cases h2 : k < t.length
        · obtain ⟨a, ha⟩ : ∃ a, s[k]? = some a := ⟨_, List.getElem?_eq_getElem h1⟩
          obtain ⟨b, hb⟩ : ∃ b, t[k]? = some b := ⟨_, List.getElem?_eq_getElem h2⟩
          have Ha := Lib.hid ha
          have Hb := Lib.hid hb
          have ra := fun w => idx_run ha w
          have rb := fun w => idx_run hb w
          clear ha hb
          rcases Nat.lt_trichotomy a.toNat b.toNat with hab | hab | hab
          · have Hr := Lib.hid (cmpS_lt Heq.out Ha.out Hb.out hab)
            have hd2 : (a.toNat != b.toNat) = true := by rw [bne_iff_ne]; omega
            have hd3 : ((a.toNat : Int) != (b.toNat : Int)) = true := by rw [bne_iff_ne]; omega
            go_wp2
            go_quiet (fail)
            go_wp2
            go_quiet (fail)
            go_wp2
            rw [Hr.out]
            go_ret
            exact ⟨rfl, _, by rw [World.drewN_drewN, World.drewN_drewN]⟩
          · obtain rfl : a = b := UInt8.toNat_inj.1 hab
            have hd2 : ((a.toNat : Int) != (a.toNat : Int)) = false := by simp
            clear hab
            go_wp2
            go_quiet (fail)
            go_wp2
            go_roundw
            case rel => exact ⟨k + 1, _, by omega, by omega, by go_num, rfl, Lib.hid (by rw [List.take_add_one, List.take_add_one, Heq.out, Ha.out, Hb.out])⟩
            case measure => simp [intOf]; omega
          · have Hr := Lib.hid (cmpS_gt Heq.out Ha.out Hb.out hab)
            have hd2 : (a.toNat != b.toNat) = true := by rw [bne_iff_ne]; omega
            have hd3 : ((a.toNat : Int) != (b.toNat : Int)) = true := by rw [bne_iff_ne]; omega
            go_wp2
            go_quiet (fail)
            go_wp2
            go_quiet (fail)
            go_wp2
            rw [Hr.out]
            go_ret
            exact ⟨rfl, _, by rw [World.drewN_drewN, World.drewN_drewN]⟩
        · have hkt : k = t.length := by omega
          have hlt : ¬ s.length < t.length := by omega
          have hgt : t.length < s.length := by omega
          have h3 := less_short Heq.out.symm hkt hgt
          have Hr : Hid (Ky.cmpS s t = 1) := Lib.hid (by unfold Ky.cmpS; rw [if_neg (by rw [Ky.less_asymm h3]; decide), if_pos h3])
          clear h3 hkt
          go_wp2
          rw [Hr.out]
          go_ret
          exact ⟨rfl, _, rfl⟩
      · have hks : k = s.length := by omega
        by_cases h2 : s.length < t.length
        · have h3 := less_short Heq.out hks h2
          have Hr : Hid (Ky.cmpS s t = -1) := Lib.hid (by unfold Ky.cmpS; rw [if_pos h3])
          clear h3 hks
          go_wp2
          rw [Hr.out]
          go_ret
          exact ⟨rfl, _, rfl⟩
        · have hst : s = t := by
            have := Heq.out
            rw [List.take_of_length_le (by omega), List.take_of_length_le (by omega)] at this
            exact this
          have hgt : ¬ t.length < s.length := by rw [hst]; omega
          have Hr : Hid (Ky.cmpS s t = 0) := Lib.hid (Ky.cmpS_zero.2 hst)
          clear hst hks
          go_wp2
          rw [Hr.out]
          go_ret
          exact ⟨rfl, _, rfl⟩
  · have hd : (v != x) = true := by rw [bne_iff_ne]; exact hv
    by_cases h1 : v < x
    · have he : Ky.cmpE v s x t = -1 := by unfold Ky.cmpE; rw [if_pos h1]
      rw [he]
      clear he
      go_enter Try.func17, Try.ntmps17
      go_wp2
      go_ret
      exact ⟨rfl, 0, rfl⟩
    · have he : Ky.cmpE v s x t = 1 := by unfold Ky.cmpE; rw [if_neg h1, if_pos (by omega)]
      rw [he]
      clear he
      go_enter Try.func17, Try.ntmps17
      go_wp2
      go_ret
      exact ⟨rfl, 0, rfl⟩
end Go.Proofs.Ytakgpljpdcjmfaa
