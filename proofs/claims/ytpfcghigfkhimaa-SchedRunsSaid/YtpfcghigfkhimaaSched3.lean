/- Package sched: Give, Take, Idle. -/
import Derived.Test.YtpfcghigfkhimaaSched2
namespace Go.Proofs.Ytpfcghigfkhimaa
open Go.RowKit
section
variable (g sb : Nat) (chs : List Nat) (st : List (Option Int))
theorem give_nil (v id : Int) (w : World) : Calls Try.prog 10 #[.pointer none, .int .i64 v, .int .i64 id] w fun e w' => e = .returned (.int .i64 2) ∧ w = w' := by
  go_enter Try.func10, Try.ntmps10
  go_wp2
  go_ret
  exact ⟨rfl, rfl⟩
theorem give_range (v id : Int) (hi : inB st v = false) (w : World) (h : Brd w g sb chs st) :
    Calls Try.prog 10 #[.pointer (some ⟨g, 0, none⟩), .int .i64 v, .int .i64 id] w fun e w' => e = .returned (.int .i64 10) ∧ w = w' := by
  have HH := Lib.hid (has_any g sb chs st v w h)
  rw [hi] at HH
  clear h hi
  go_enter Try.func10, Try.ntmps10
  go_wp2_with (go_at_call 21; refine HH.out.mono ?_; rintro e w1 ⟨rfl, rfl⟩)
  go_ret
  exact ⟨rfl, rfl⟩
theorem give_full (v id n : Int) (hl : look st v = some n) (w : World) (h : Brd w g sb chs st) :
    Calls Try.prog 10 #[.pointer (some ⟨g, 0, none⟩), .int .i64 v, .int .i64 id] w fun e w' => e = .returned (.int .i64 16) ∧ Brd w' g sb chs st ∧ Fr (bF chs) w w' := by
  have HH := Lib.hid (has_any g sb chs st v w h)
  have hi : inB st v = true := by
    cases hb : inB st v with
    | true => rfl
    | false => rw [look_out hb] at hl; cases hl
  rw [hi] at HH
  have HD := Lib.hid (does_some g sb chs st v n hl w h)
  clear h hi hl
  go_enter Try.func10, Try.ntmps10
  go_wp2_with (first
    | (go_at_call 21; refine HH.out.mono ?_; rintro e w1 ⟨rfl, rfl⟩)
    | (go_at_call 12; refine HD.out.mono ?_; rintro e w1 ⟨rfl, hb⟩; have H1 := Lib.hid hb; clear hb))
  go_ret
  exact ⟨rfl, H1.out⟩
set_option maxHeartbeats 1000000 in
theorem give_there (v id : Int) (hi : inB st v = true) (hl : look st v = none) (ht : some id ∈ st) (w : World) (h : Brd w g sb chs st) :
    Calls Try.prog 10 #[.pointer (some ⟨g, 0, none⟩), .int .i64 v, .int .i64 id] w fun e w' => e = .returned (.int .i64 15) ∧ Brd w' g sb chs st ∧ Fr (bF chs) w w' := by
  have HH := Lib.hid (has_any g sb chs st v w h)
  rw [hi] at HH
  have HD := Lib.hid (does_none g sb chs st v hl w h)
  have HB := Lib.hid h
  have HT := Lib.hid ht
  have hlen := h.len
  have hp := h.ptr
  have hfew := h.few
  have hl1 : st.length ≤ chs.length := by omega
  have hl2 : chs.length ≤ st.length := by omega
  obtain ⟨i, rfl, hlt, hst⟩ := look_at hi
  rw [hl] at hst
  obtain ⟨c, hc⟩ : ∃ c, chs[i]? = some c := ⟨_, List.getElem?_eq_getElem (by omega)⟩
  have HC := Lib.hid (And.intro hc hst)
  clear h hi hl ht hlen hst hc
  go_enter Try.func10, Try.ntmps10
  go_wp2_with (first
    | (go_at_call 21; refine HH.out.mono ?_; rintro e w1 ⟨rfl, rfl⟩)
    | (go_at_call 12; refine HD.out.mono ?_; rintro e w1 ⟨rfl, rfl⟩))
  clear hp
  go_loopw [30] (fun t wr => ∃ m : Nat, m ≤ chs.length ∧ t = .int .i64 m ∧ Hid (Brd wr g sb chs st ∧ Fr (bF chs) w wr ∧ ∀ j, j < m → st[j]? ≠ some (some id))) (fun t _ => chs.length - (intOf t).toNat)
  case atStart => exact ⟨0, by omega, rfl, Lib.hid ⟨HB.out, Fr.refl _ _, fun j hj => by omega⟩⟩
  case round =>
    obtain ⟨m, hm, rfl, HS⟩ := hrel
    by_cases hmt : m < chs.length
    · obtain ⟨o, ho⟩ : ∃ o, st[m]? = some o := ⟨_, List.getElem?_eq_getElem (by omega)⟩
      have hlk : look st (m : Int) = o := by
        unfold look
        rw [if_pos (by omega), Int.toNat_natCast, ho]; rfl
      have HO := Lib.hid ho
      clear ho
      cases o with
      | none =>
        have HDm := Lib.hid (does_none g sb chs st (m : Int) hlk wr HS.out.1)
        clear hlk
        go_wp2_with (go_at_call 12; refine HDm.out.mono ?_; rintro e w1 ⟨rfl, rfl⟩)
        go_roundw
        case rel => exact ⟨m + 1, by omega, by go_num, Lib.hid ⟨HS.out.1, HS.out.2.1, fun j hj => by
          by_cases e : j = m
          · subst e; rw [HO.out]; simp
          · exact HS.out.2.2 j (by omega)⟩⟩
        case measure => simp [intOf]; omega
      | some d =>
        have HDm := Lib.hid (does_some g sb chs st (m : Int) d hlk wr HS.out.1)
        clear hlk
        by_cases hd : d = id
        · have hne : (d == id) = true := by simp [hd]
          clear hd
          go_wp2_with (go_at_call 12; refine HDm.out.mono ?_; rintro e w1 ⟨rfl, hb⟩; have H1 := Lib.hid hb; clear hb)
          go_ret
          exact ⟨rfl, H1.out.1, HS.out.2.1.trans H1.out.2 (fun b o hb => .inl hb)⟩
        · have hne : (d == id) = false := by simp [hd]
          have HNE := Lib.hid hd
          clear hd
          go_wp2_with (go_at_call 12; refine HDm.out.mono ?_; rintro e w1 ⟨rfl, hb⟩; have H1 := Lib.hid hb; clear hb)
          go_roundw
          case rel => exact ⟨m + 1, by omega, by go_num, Lib.hid ⟨H1.out.1, HS.out.2.1.trans H1.out.2 (fun b o hb => .inl hb), fun j hj => by
            by_cases e : j = m
            · subst e; rw [HO.out]; simp [HNE.out]
            · exact HS.out.2.2 j (by omega)⟩⟩
          case measure => simp [intOf]; omega
    · obtain rfl : m = chs.length := by omega
      exfalso
      obtain ⟨j, hj, e⟩ := List.getElem_of_mem HT.out
      exact HS.out.2.2 j (by omega) (by rw [List.getElem?_eq_getElem hj, e])
set_option maxHeartbeats 1000000 in
theorem give_ok (v id : Int) (hi : inB st v = true) (hl : look st v = none) (ht : some id ∉ st) (w : World) (h : Brd w g sb chs st) :
    Calls Try.prog 10 #[.pointer (some ⟨g, 0, none⟩), .int .i64 v, .int .i64 id] w fun e w' => e = .returned (.int .i64 0) ∧ Brd w' g sb chs (st.set v.toNat (some id)) ∧ Fr (bF chs) w w' := by
  have HH := Lib.hid (has_any g sb chs st v w h)
  rw [hi] at HH
  have HD := Lib.hid (does_none g sb chs st v hl w h)
  have HB := Lib.hid h
  have HT := Lib.hid ht
  have hlen := h.len
  have hp := h.ptr
  have hfew := h.few
  have hl1 : st.length ≤ chs.length := by omega
  have hl2 : chs.length ≤ st.length := by omega
  obtain ⟨i, rfl, hlt, hst⟩ := look_at hi
  rw [hl] at hst
  obtain ⟨c, hc⟩ : ∃ c, chs[i]? = some c := ⟨_, List.getElem?_eq_getElem (by omega)⟩
  have HC := Lib.hid (And.intro hc hst)
  clear h hi hl ht hlen hst hc
  go_enter Try.func10, Try.ntmps10
  go_wp2_with (first
    | (go_at_call 21; refine HH.out.mono ?_; rintro e w1 ⟨rfl, rfl⟩)
    | (go_at_call 12; refine HD.out.mono ?_; rintro e w1 ⟨rfl, rfl⟩))
  clear hp
  go_loopw [30] (fun t wr => ∃ m : Nat, m ≤ chs.length ∧ t = .int .i64 m ∧ Hid (Brd wr g sb chs st ∧ Fr (bF chs) w wr ∧ ∀ j, j < m → st[j]? ≠ some (some id))) (fun t _ => chs.length - (intOf t).toNat)
  case atStart => exact ⟨0, by omega, rfl, Lib.hid ⟨HB.out, Fr.refl _ _, fun j hj => by omega⟩⟩
  case round =>
    obtain ⟨m, hm, rfl, HS⟩ := hrel
    by_cases hmt : m < chs.length
    · obtain ⟨o, ho⟩ : ∃ o, st[m]? = some o := ⟨_, List.getElem?_eq_getElem (by omega)⟩
      have hlk : look st (m : Int) = o := by
        unfold look
        rw [if_pos (by omega), Int.toNat_natCast, ho]; rfl
      have HO := Lib.hid ho
      clear ho
      cases o with
      | none =>
        have HDm := Lib.hid (does_none g sb chs st (m : Int) hlk wr HS.out.1)
        clear hlk
        go_wp2_with (go_at_call 12; refine HDm.out.mono ?_; rintro e w1 ⟨rfl, rfl⟩)
        go_roundw
        case rel => exact ⟨m + 1, by omega, by go_num, Lib.hid ⟨HS.out.1, HS.out.2.1, fun j hj => by
          by_cases e : j = m
          · subst e; rw [HO.out]; simp
          · exact HS.out.2.2 j (by omega)⟩⟩
        case measure => simp [intOf]; omega
      | some d =>
        have HDm := Lib.hid (does_some g sb chs st (m : Int) d hlk wr HS.out.1)
        clear hlk
        by_cases hd : d = id
        · exfalso
          subst hd
          exact HT.out (List.mem_of_getElem? HO.out)
        · have hne : (d == id) = false := by simp [hd]
          have HNE := Lib.hid hd
          clear hd
          go_wp2_with (go_at_call 12; refine HDm.out.mono ?_; rintro e w1 ⟨rfl, hb⟩; have H1 := Lib.hid hb; clear hb)
          go_roundw
          case rel => exact ⟨m + 1, by omega, by go_num, Lib.hid ⟨H1.out.1, HS.out.2.1.trans H1.out.2 (fun b o hb => .inl hb), fun j hj => by
            by_cases e : j = m
            · subst e; rw [HO.out]; simp [HNE.out]
            · exact HS.out.2.2 j (by omega)⟩⟩
          case measure => simp [intOf]; omega
    · obtain rfl : m = chs.length := by omega
      have p1 := HS.out.1.ptr
      have r1 := HS.out.1.row i c HC.out.1
      have i0 : (0 : Int) ≤ (i : Int) := by omega
      have i1 : (i : Int) < (chs.length : Int) := by omega
      have HLay := Lib.hid (lay_room c id wr (HS.out.1.slots i c none HC.out.1 HC.out.2))
      go_wp2_with (go_at_call 22; refine HLay.out.mono ?_; rintro e w2 ⟨rfl, hs2, hf2⟩; have H2 := Lib.hid (HS.out.1.set HC.out.1 hf2 hs2); clear hs2 hf2)
      go_ret
      exact ⟨rfl, by rw [Int.toNat_natCast]; exact H2.out.1, HS.out.2.1.trans H2.out.2 (fun b o hb => .inl hb)⟩
theorem take_nil (v : Int) (w : World) : Calls Try.prog 17 #[.pointer none, .int .i64 v] w fun e w' => e = .returned (.tuple #[.int .i64 0, .int .i64 2]) ∧ w = w' := by
  go_enter Try.func17, Try.ntmps17
  go_wp2
  go_ret2
  exact ⟨rfl, rfl⟩
theorem take_range (v : Int) (hi : inB st v = false) (w : World) (h : Brd w g sb chs st) :
    Calls Try.prog 17 #[.pointer (some ⟨g, 0, none⟩), .int .i64 v] w fun e w' => e = .returned (.tuple #[.int .i64 0, .int .i64 10]) ∧ w = w' := by
  have HH := Lib.hid (has_any g sb chs st v w h)
  rw [hi] at HH
  clear h hi
  go_enter Try.func17, Try.ntmps17
  go_wp2_with (go_at_call 21; refine HH.out.mono ?_; rintro e w1 ⟨rfl, rfl⟩)
  go_ret2
  exact ⟨rfl, rfl⟩
theorem take_none (v : Int) (hi : inB st v = true) (hl : look st v = none) (w : World) (h : Brd w g sb chs st) :
    Calls Try.prog 17 #[.pointer (some ⟨g, 0, none⟩), .int .i64 v] w fun e w' => e = .returned (.tuple #[.int .i64 0, .int .i64 14]) ∧ w = w' := by
  have HH := Lib.hid (has_any g sb chs st v w h)
  rw [hi] at HH
  obtain ⟨i, rfl, hlt, hst⟩ := look_at hi
  rw [hl] at hst
  have hlen := h.len
  obtain ⟨c, hc⟩ : ∃ c, chs[i]? = some c := ⟨_, List.getElem?_eq_getElem (by omega)⟩
  have hp := h.ptr
  have hr := h.row i c hc
  have HL := Lib.hid (lift_none c w (h.slots i c none hc hst))
  have i0 : (0 : Int) ≤ (i : Int) := by omega
  have i1 : (i : Int) < (chs.length : Int) := by omega
  clear h hi hl hst hc hlen
  go_enter Try.func17, Try.ntmps17
  go_wp2_with (first
    | (go_at_call 21; refine HH.out.mono ?_; rintro e w1 ⟨rfl, rfl⟩)
    | (go_at_call 23; refine HL.out.mono ?_; rintro e w1 ⟨rfl, rfl⟩))
  go_ret2
  exact ⟨rfl, rfl⟩
theorem take_some (v n : Int) (hl : look st v = some n) (w : World) (h : Brd w g sb chs st) :
    Calls Try.prog 17 #[.pointer (some ⟨g, 0, none⟩), .int .i64 v] w fun e w' => e = .returned (.tuple #[.int .i64 n, .int .i64 0]) ∧ Brd w' g sb chs (st.set v.toNat none) ∧ Fr (bF chs) w w' := by
  have HH := Lib.hid (has_any g sb chs st v w h)
  have hi : inB st v = true := by
    cases hb : inB st v with
    | true => rfl
    | false => rw [look_out hb] at hl; cases hl
  rw [hi] at HH
  obtain ⟨i, rfl, hlt, hst⟩ := look_at hi
  rw [hl] at hst
  have hlen := h.len
  obtain ⟨c, hc⟩ : ∃ c, chs[i]? = some c := ⟨_, List.getElem?_eq_getElem (by omega)⟩
  have hp := h.ptr
  have hr := h.row i c hc
  have HL := Lib.hid (lift_has c n w (h.slots i c (some n) hc hst))
  have i0 : (0 : Int) ≤ (i : Int) := by omega
  have i1 : (i : Int) < (chs.length : Int) := by omega
  have HB := Lib.hid h
  have HC := Lib.hid hc
  clear h hi hl hst hc hlen
  go_enter Try.func17, Try.ntmps17
  go_wp2_with (first
    | (go_at_call 21; refine HH.out.mono ?_; rintro e w1 ⟨rfl, rfl⟩)
    | (go_at_call 23; refine HL.out.mono ?_; rintro e w1 ⟨rfl, hs1, hf1⟩; have H1 := Lib.hid (HB.out.set HC.out hf1 hs1); clear hs1 hf1))
  go_ret2
  exact ⟨rfl, by rw [Int.toNat_natCast]; exact H1.out.1, H1.out.2⟩
end
end Go.Proofs.Ytpfcghigfkhimaa
