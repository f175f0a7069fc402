/- The walk of KeysBack. -/
import Derived.Test.YtakgpljpdcjmfaaKeysLaws4
namespace Go.Proofs.Ytakgpljpdcjmfaa
open Go.RowKit

theorem put_ok {v : Int} {k : List UInt8} (h : okKey k = true) : okE (Ky.put v k) = true := by
  unfold okKey at h
  unfold okE Ky.put
  simp only [decide_eq_true_eq] at h ⊢
  rw [List.length_append, Ky.enc_length]
  omega
theorem put_take (v : Int) (k : List UInt8) : (Ky.put v k).take 8 = Ky.enc v := by
  unfold Ky.put
  exact List.take_left' (Ky.enc_length v)
theorem put_drop (v : Int) (k : List UInt8) : (Ky.put v k).drop 8 = k := by
  unfold Ky.put
  exact List.drop_left' (Ky.enc_length v)
theorem put_of_get {l : List UInt8} (h : okE l = true) : Ky.In (Ky.dec (l.take 8)) ∧ okKey (l.drop 8) = true ∧ Ky.put (Ky.dec (l.take 8)) (l.drop 8) = l := by
  unfold okE at h
  simp only [decide_eq_true_eq] at h
  have h8 : (l.take 8).length = 8 := by rw [List.length_take]; omega
  refine ⟨Ky.dec_in h8, ?_, ?_⟩
  · unfold okKey
    rw [List.length_drop]
    simp only [decide_eq_true_eq]
    omega
  · unfold Ky.put
    rw [Ky.enc_dec h8, List.take_append_drop]
theorem Box.laid {w1 : World} {g : Nat} {v : Int} {s : List UInt8} (h : Box w1 g v s) (o : Obj) : Box (w1.alloc o) g v s := h.later (al1 w1 o)

set_option maxRecDepth 100000 in
set_option maxHeartbeats 2000000 in
theorem back_walk (v : Int) (k : List UInt8) (l : List UInt8) (hv : Ky.In v) (w : World) :
    Calls Try.prog 6 #[entV v k, .string ⟨l.toArray⟩] w (Yes w) := by
  by_cases h1 : 100 < k.length
  · clear hv
    go_enter Try.func6, Try.ntmps6
    go_wp2_with (go_at_call 9; refine (awake_any _).mono ?_; rintro e w2 ⟨rfl, hb⟩; have HB := Lib.hid (box_one w v k _ hb).2; clear hb)
    go_ret
    exact ⟨rfl, HB.out⟩
  by_cases h2 : 100 < l.length
  · clear hv
    go_enter Try.func6, Try.ntmps6
    go_wp2_with (go_at_call 9; refine (awake_any _).mono ?_; rintro e w2 ⟨rfl, hb⟩; have HB := Lib.hid (box_one w v k _ hb).2; clear hb)
    go_ret
    exact ⟨rfl, HB.out⟩
  have hg := guardEntry
  have hne := neE_run v k v k true (by simp)
  have hz := eqE_run 0 [] 0 [] true (by simp)
  have tok1 : True := trivial
  by_cases o1 : okKey k = true
  · have HP := Lib.hid (put_good v hv k · o1)
    have HG := Lib.hid (get_yes (Ky.put v k) (put_ok o1))
    rw [put_take, put_drop, Ky.dec_enc hv] at HG
    have hlen : (Ky.put v k).length = k.length + 8 := by unfold Ky.put; rw [List.length_append, Ky.enc_length]; omega
    have hlenI : ((Ky.put v k).length : Int) = (k.length : Int) + 8 := by omega
    clear hlen
    generalize Ky.put v k = t at *
    by_cases o2 : okE l = true
    · have HG2 := Lib.hid (get_yes l o2)
      obtain ⟨i1, i2, i3⟩ := put_of_get o2
      have HP2 := Lib.hid (put_good (Ky.dec (l.take 8)) i1 (l.drop 8) · i2)
      rw [i3] at HP2
      have hss := str_eql 9 l l
      rw [beq_self_eq_true] at hss
      clear i1 i2 i3 o1 o2 hv
      generalize Ky.dec (l.take 8) = n at *
      generalize l.drop 8 = q at *
      go_enter Try.func6, Try.ntmps6
      go_wp2_with (first
        | (have _t := tok1; go_at_call 10; with_reducible refine (HP.out _).mono ?_; rintro e w1 ⟨rfl, hb⟩; have BX := Lib.hid (box_one w v k _ hb); clear hb tok1)
        | (go_at_call 15; with_reducible refine (HG.out _).mono ?_; rintro e w2 ⟨rfl, hb⟩; have BY := Lib.hid ((BX.out.1.later hb).laid (.cells #[.int .i64 v, .string ⟨k.toArray⟩] 23)); have HB2 := Lib.hid (Below.alloc_in (BX.out.2.trans (hb.mono BX.out.2.size)) (.cells #[.int .i64 v, .string ⟨k.toArray⟩] 23)); have y0 := BY.out.num; have y1 := BY.out.key; clear hb)
        | (go_at_call 15; with_reducible refine (HG2.out _).mono ?_; rintro e w3 ⟨rfl, hb⟩; have HB3 := Lib.hid (Below.alloc_in (HB2.out.trans (hb.mono HB2.out.size)) (.cells #[.int .i64 n, .string ⟨q.toArray⟩] 23)); clear hb y0 y1)
        | (go_at_call 10; with_reducible refine (HP2.out _).mono ?_; rintro e w4 ⟨rfl, hb⟩; have HB4 := Lib.hid (HB3.out.trans (hb.mono HB3.out.size)); clear hb)
        | (go_at_call 9; refine (awake_any _).mono ?_; rintro e w5 ⟨rfl, hb⟩; have HB5 := Lib.hid (HB4.out.trans (hb.mono HB4.out.size)); clear hb))
      go_ret
      exact ⟨rfl, HB5.out⟩
    · have HG2 := Lib.hid (get_no l (by simpa using o2))
      clear o1 o2 hv
      go_enter Try.func6, Try.ntmps6
      go_wp2_with (first
        | (have _t := tok1; go_at_call 10; with_reducible refine (HP.out _).mono ?_; rintro e w1 ⟨rfl, hb⟩; have BX := Lib.hid (box_one w v k _ hb); clear hb tok1)
        | (go_at_call 15; with_reducible refine (HG.out _).mono ?_; rintro e w2 ⟨rfl, hb⟩; have BY := Lib.hid ((BX.out.1.later hb).laid (.cells #[.int .i64 v, .string ⟨k.toArray⟩] 23)); have HB2 := Lib.hid (Below.alloc_in (BX.out.2.trans (hb.mono BX.out.2.size)) (.cells #[.int .i64 v, .string ⟨k.toArray⟩] 23)); have y0 := BY.out.num; have y1 := BY.out.key; clear hb)
        | (go_at_call 15; with_reducible refine (HG2.out _).mono ?_; rintro e w3 ⟨rfl, hb⟩; have HB3 := Lib.hid (Below.alloc_in (HB2.out.trans (hb.mono HB2.out.size)) (.cells #[.int .i64 0, .string ⟨#[]⟩] 23)); clear hb y0 y1)
        | (go_at_call 9; refine (awake_any _).mono ?_; rintro e w5 ⟨rfl, hb⟩; have HB5 := Lib.hid (HB3.out.trans (hb.mono HB3.out.size)); clear hb))
      go_ret
      exact ⟨rfl, HB5.out⟩
  · have HP := Lib.hid (put_bad v k · (by simpa using o1))
    by_cases o2 : okE l = true
    · have HG2 := Lib.hid (get_yes l o2)
      obtain ⟨i1, i2, i3⟩ := put_of_get o2
      have HP2 := Lib.hid (put_good (Ky.dec (l.take 8)) i1 (l.drop 8) · i2)
      rw [i3] at HP2
      have hss := str_eql 9 l l
      rw [beq_self_eq_true] at hss
      clear i1 i2 i3 o1 o2 hv
      generalize Ky.dec (l.take 8) = n at *
      generalize l.drop 8 = q at *
      go_enter Try.func6, Try.ntmps6
      go_wp2_with (first
        | (have _t := tok1; go_at_call 10; with_reducible refine (HP.out _).mono ?_; rintro e w1 ⟨rfl, hb⟩; have HB2 := Lib.hid (box_one w v k _ hb).2; clear hb tok1)
        | (go_at_call 15; with_reducible refine (HG2.out _).mono ?_; rintro e w3 ⟨rfl, hb⟩; have HB3 := Lib.hid (Below.alloc_in (HB2.out.trans (hb.mono HB2.out.size)) (.cells #[.int .i64 n, .string ⟨q.toArray⟩] 23)); clear hb)
        | (go_at_call 10; with_reducible refine (HP2.out _).mono ?_; rintro e w4 ⟨rfl, hb⟩; have HB4 := Lib.hid (HB3.out.trans (hb.mono HB3.out.size)); clear hb)
        | (go_at_call 9; refine (awake_any _).mono ?_; rintro e w5 ⟨rfl, hb⟩; have HB5 := Lib.hid (HB4.out.trans (hb.mono HB4.out.size)); clear hb))
      go_ret
      exact ⟨rfl, HB5.out⟩
    · have HG2 := Lib.hid (get_no l (by simpa using o2))
      clear o1 o2 hv
      go_enter Try.func6, Try.ntmps6
      go_wp2_with (first
        | (have _t := tok1; go_at_call 10; with_reducible refine (HP.out _).mono ?_; rintro e w1 ⟨rfl, hb⟩; have HB2 := Lib.hid (box_one w v k _ hb).2; clear hb tok1)
        | (go_at_call 15; with_reducible refine (HG2.out _).mono ?_; rintro e w3 ⟨rfl, hb⟩; have HB3 := Lib.hid (Below.alloc_in (HB2.out.trans (hb.mono HB2.out.size)) (.cells #[.int .i64 0, .string ⟨#[]⟩] 23)); clear hb)
        | (go_at_call 9; refine (awake_any _).mono ?_; rintro e w5 ⟨rfl, hb⟩; have HB5 := Lib.hid (HB3.out.trans (hb.mono HB3.out.size)); clear hb))
      go_ret
      exact ⟨rfl, HB5.out⟩
end Go.Proofs.Ytakgpljpdcjmfaa
