/- The document's numbers and texts: same, Read, Text; nil writers and readers. -/
import Derived.Test.YtapjdcofnigjhaaField7
import Derived.Test.YtapjdcofnigjhaaFd3
import Derived.Test.YtapjdcofnigjhaaRows4
import Derived.Laws.IdiomStrings
namespace Go.Proofs.Ytapjdcofnigjhaa
open Go.RowKit
theorem pre_take (bs xs : List UInt8) (k : Nat) (hk : k = xs.length) (h : bs.take k = xs) : xs <+: bs := ⟨bs.drop k, by rw [← h, List.take_append_drop]⟩
set_option maxHeartbeats 1000000 in
theorem refSame_any (a : Option Addr) (c : Nat) (bs : List UInt8) (a2 : Option Addr) (c2 : Nat) (xs : List UInt8) (hl : bs.length ≤ 1000000) (hl2 : xs.length ≤ 1000000) (w : World) (h : RdB w a c bs) (h2 : RdB w a2 c2 xs) :
    Calls Try.prog 45 #[.slice a bs.length c, .slice a2 xs.length c2] w fun e w' => e = .returned (.bool (decide (xs <+: bs))) ∧ Below w.heap.size w w' := by
  generalize hr : decide (xs <+: bs) = r
  have HR := Lib.hid hr
  have HB := Lib.hid (And.intro h h2)
  clear h h2 hr
  by_cases hlen : bs.length < xs.length
  · have hrf : r = false := by
      rw [← HR.out, decide_eq_false_iff_not]
      intro h
      have := h.length_le
      omega
    subst hrf
    have hlen' : (bs.length : Int) < (xs.length : Int) := by omega
    clear hlen
    go_enter Try.func45, Try.ntmps45
    go_wp2
    go_ret
    exact ⟨rfl, Below.refl _ _⟩
  · have hlen' : (xs.length : Int) ≤ (bs.length : Int) := by omega
    go_enter Try.func45, Try.ntmps45
    go_wp2
    go_loopw [5] (fun i wr => ∃ (k : Nat), k ≤ xs.length ∧ i = .int .i64 k ∧ Hid (Below w.heap.size w wr ∧ bs.take k = xs.take k)) (fun i _ => xs.length - (intOf i).toNat)
    case atStart => exact ⟨0, by omega, rfl, Lib.hid ⟨Below.refl _ _, rfl⟩⟩
    case round =>
      obtain ⟨k, hk, rfl, HS⟩ := hrel
      obtain ⟨wo, rfl⟩ : ∃ wo : World, wo = wr := ⟨_, rfl⟩
      by_cases hlt : k < xs.length
      · obtain ⟨x, hx⟩ : ∃ x, xs[k]? = some x := ⟨_, List.getElem?_eq_getElem hlt⟩
        obtain ⟨y, hy⟩ : ∃ y, bs[k]? = some y := ⟨_, List.getElem?_eq_getElem (by omega)⟩
        obtain ⟨b, o, rfl, y0⟩ := (RdB.later HB.out.1 HS.out.1).at k y hy
        obtain ⟨b2, o2, rfl, x0⟩ := (RdB.later HB.out.2 HS.out.1).at k x hx
        have HXY := Lib.hid (And.intro hx hy)
        have k0 : (0 : Int) ≤ (k : Int) := by omega
        have k1 : (k : Int) < (xs.length : Int) := by omega
        have k2 : (k : Int) < (bs.length : Int) := by omega
        clear hx hy
        by_cases hxy : y = x
        · subst hxy
          go_wp2
          go_quiet (fail)
          go_wp2
          go_roundw
          case rel => exact ⟨k + 1, by omega, by go_num, Lib.hid ⟨HS.out.1.trans ⟨rfl, rfl, rfl, Nat.le_refl _, fun _ _ => rfl⟩, by rw [List.take_add_one, List.take_add_one, HXY.out.1, HXY.out.2, HS.out.2]⟩⟩
          case measure => simp [intOf]; omega
        · have hrf : r = false := by
            rw [← HR.out, decide_eq_false_iff_not]
            rintro ⟨t, rfl⟩
            have := HXY.out.2
            rw [List.getElem?_append_left hlt, HXY.out.1] at this
            exact hxy (Option.some.inj this).symm
          subst hrf
          have hne : ((y.toNat : Int) != (x.toNat : Int)) = true := by
            simp only [bne_iff_ne, ne_eq]
            intro e
            exact hxy (UInt8.toNat_inj.1 (by omega))
          have hne2 : ¬ (y.toNat : Int) = (x.toNat : Int) := by simpa using hne
          clear hxy
          go_wp2
          go_quiet (fail)
          go_wp2
          go_ret
          exact ⟨by first | rfl | (simp; done), HS.out.1.trans ⟨rfl, rfl, rfl, Nat.le_refl _, fun _ _ => rfl⟩⟩
      · obtain rfl : k = xs.length := by omega
        have hrt : r = true := by
          rw [← HR.out, decide_eq_true_eq]
          exact pre_take bs xs _ rfl (by have := HS.out.2; rwa [List.take_length] at this)
        subst hrt
        go_wp2
        go_ret
        exact ⟨rfl, HS.out.1⟩
end Go.Proofs.Ytapjdcofnigjhaa
