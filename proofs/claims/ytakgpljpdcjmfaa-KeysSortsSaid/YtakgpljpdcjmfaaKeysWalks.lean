/- The walks of package keys: what each function computes. -/
import Derived.Test.YtakgpljpdcjmfaaProg
import Derived.Test.YtakgpljpdcjmfaaKit
import Derived.Test.YtakgpljpdcjmfaaKy
import Derived.Handy
import Derived.Lib.Strings
import Derived.Deep.RegionHeld3
import Derived.Deep.QuietTactic
import Derived.BigQuiet
namespace Go.Proofs.Ytakgpljpdcjmfaa
open Go.RowKit

theorem spread_num (v : Int) (hv : Ky.In v) : IntKind.u64.wrap (IntKind.u64.wrap v + 9223372036854775808) = (Ky.nat v : Int) := by
  unfold Ky.In at hv
  unfold Ky.nat
  simp only [IntKind.wrap_u64]
  omega
theorem enc_cells (v : Int) : #[Value.int .u8 ((Ky.nat v : Int) / 256 / 256 / 256 / 256 / 256 / 256 / 256 % 256), .int .u8 ((Ky.nat v : Int) / 256 / 256 / 256 / 256 / 256 / 256 % 256), .int .u8 ((Ky.nat v : Int) / 256 / 256 / 256 / 256 / 256 % 256), .int .u8 ((Ky.nat v : Int) / 256 / 256 / 256 / 256 % 256), .int .u8 ((Ky.nat v : Int) / 256 / 256 / 256 % 256), .int .u8 ((Ky.nat v : Int) / 256 / 256 % 256), .int .u8 ((Ky.nat v : Int) / 256 % 256), .int .u8 ((Ky.nat v : Int) % 256)] = (bytesV (Ky.enc v)).toArray := by
  simp [bytesV, Ky.enc, Ky.be]

set_option maxRecDepth 100000 in
set_option maxHeartbeats 1000000 in
theorem spread_any (v : Int) (hv : Ky.In v) (w : World) :
    Calls Try.prog 25 #[.int .i64 v] w fun e w' => e = .returned (.agg (bytesV (Ky.enc v)).toArray) ∧ Below w.heap.size w w' := by
  rw [← enc_cells]
  have hnum := spread_num v hv
  go_enter Try.func25, Try.ntmps25
  clear hnum
  go_wp2
  rw [spread_num v hv]
  have hand := u64_and255
  refine wp_loop_rounds 9 ?_
  repeat any_goals (rw [rounds_succ]; go_wp2)
  go_returns
  exact ⟨rfl, ((Below.refl _ _).alloc (Nat.le_refl _) _).alloc (by simp) _⟩

theorem eight_of {l : List UInt8} (h : l.length = 8) : ∃ a b c d e f g i, l = [a, b, c, d, e, f, g, i] := by
  match l, h with
  | [a, b, c, d, e, f, g, i], _ => exact ⟨a, b, c, d, e, f, g, i, rfl⟩

theorem eight_made (w : World) (b0 b1 b2 b3 b4 b5 b6 b7 : UInt8) (t : TypeId) (fr : Nat × Nat) : Rd (w.alloc (.cells #[.int .u8 b0.toNat, .int .u8 b1.toNat, .int .u8 b2.toNat, .int .u8 b3.toNat, .int .u8 b4.toNat, .int .u8 b5.toNat, .int .u8 b6.toNat, .int .u8 b7.toNat] t fr)) 1 (some ⟨w.heap.size, 0, none⟩) 8 8 (bytesV [b0, b1, b2, b3, b4, b5, b6, b7]) :=
  Rd.made w (bytesV [b0, b1, b2, b3, b4, b5, b6, b7]) t 1 8 rfl (by decide) (bytesV_one _) fr

set_option maxRecDepth 100000 in
set_option maxHeartbeats 1000000 in
theorem prefix_any (v : Int) (hv : Ky.In v) (w : World) :
    Calls Try.prog 19 #[.int .i64 v] w fun e w' => e = .returned (.string ⟨(Ky.enc v).toArray⟩) ∧ Below w.heap.size w w' := by
  have hs := spread_any v hv w
  obtain ⟨b0, b1, b2, b3, b4, b5, b6, b7, he⟩ := eight_of (Ky.enc_length v)
  rw [he] at hs ⊢
  have HS := Lib.hid hs
  clear hs he
  go_enter Try.func19, Try.ntmps19
  go_wp2_with (go_at_call 25; refine HS.out.mono ?_; rintro e w1 ⟨rfl, hb1⟩; simp only [bytesV, List.map_cons, List.map_nil])
  rw [run_bytes_str Try.underlying30 Try.underlying5 Try.underlying9 (eight_made w1 b0 b1 b2 b3 b4 b5 b6 b7 _ _)]
  go_wp2
  go_ret
  exact ⟨rfl, hb1.alloc hb1.size _⟩

theorem ret_bool {a b : Bool} (h : a = b) : Ending.returned (.bool a) = .returned (.bool b) := by rw [h]
theorem list_of (a : List UInt8) : (⟨a.toArray⟩ : ByteArray).toList = a := by rw [Lib.toList_data]
theorem str_lss (t : TypeId) (a b : List UInt8) : binOp .lss t (.string ⟨a.toArray⟩) (.string ⟨b.toArray⟩) = pure (.bool (Op.bytesLess a b)) := by
  simp [binOp, Op.stringOp, list_of]
theorem str_gtr (t : TypeId) (a b : List UInt8) : binOp .gtr t (.string ⟨a.toArray⟩) (.string ⟨b.toArray⟩) = pure (.bool (Op.bytesLess b a)) := by
  have h : (!(Op.bytesLess a b || a == b)) = Op.bytesLess b a := by
    rcases Ky.less_trich a b with h | h | h
    · subst h; simp [Ky.less_self]
    · simp [h, Ky.less_asymm h]
    · have hne : (a == b) = false := by
        rw [beq_eq_false_iff_ne]; rintro rfl; rw [Ky.less_self] at h; cases h
      simp [h, Ky.less_asymm h, hne]
  simp only [binOp, Op.stringOp, list_of, h]
theorem str_leq (t : TypeId) (a b : List UInt8) : binOp .leq t (.string ⟨a.toArray⟩) (.string ⟨b.toArray⟩) = pure (.bool (!Op.bytesLess b a)) := by
  have h : (Op.bytesLess a b || a == b) = !Op.bytesLess b a := by
    rcases Ky.less_trich a b with h | h | h
    · subst h; simp [Ky.less_self]
    · simp [h, Ky.less_asymm h]
    · have hne : (a == b) = false := by
        rw [beq_eq_false_iff_ne]; rintro rfl; rw [Ky.less_self] at h; cases h
      simp [h, Ky.less_asymm h, hne]
  simp only [binOp, Op.stringOp, list_of, h]
theorem str_geq (t : TypeId) (a b : List UInt8) : binOp .geq t (.string ⟨a.toArray⟩) (.string ⟨b.toArray⟩) = pure (.bool (!Op.bytesLess a b)) := by
  simp [binOp, Op.stringOp, list_of]
theorem str_eql (t : TypeId) (a b : List UInt8) : binOp .eql t (.string ⟨a.toArray⟩) (.string ⟨b.toArray⟩) = pure (.bool (a == b)) := by
  simp [binOp, Op.stringOp, list_of]
/-- '+' of two texts. -/
theorem cat_run (t : TypeId) (a b : List UInt8) (h : a.length + b.length ≤ 9223372036854775807) : binOp .add t (.string ⟨a.toArray⟩) (.string ⟨b.toArray⟩) = pure (.string ⟨(a ++ b).toArray⟩) := by
  have hsz : ∀ l : List UInt8, (⟨l.toArray⟩ : ByteArray).size = l.length := fun l => by simp [ByteArray.size]
  have happ : (⟨a.toArray⟩ : ByteArray) ++ ⟨b.toArray⟩ = ⟨(a ++ b).toArray⟩ := by
    apply ByteArray.ext
    simp
  have hm : IntKind.i64.max = 9223372036854775807 := by decide
  simp only [binOp, Op.stringOp, hsz, hm, happ]
  rw [if_neg (by omega)]
/-- Is a text a key? -/
def okKey (k : List UInt8) : Bool := decide (1 ≤ k.length ∧ k.length ≤ 16)
/-- What Check answers. -/
def chk (k : List UInt8) : Int := if okKey k then 0 else 13

set_option maxHeartbeats 400000 in
theorem check_any (k : List UInt8) (w : World) :
    Calls Try.prog 11 #[.string ⟨k.toArray⟩] w fun e w' => e = .returned (.int .i64 (chk k)) ∧ w = w' := by
  by_cases h1 : k.length < 1
  · have hc : chk k = 13 := by unfold chk okKey; simp; omega
    rw [hc]
    clear hc
    go_enter Try.func11, Try.ntmps11
    go_wp2
    go_ret
    exact ⟨rfl, rfl⟩
  by_cases h2 : 16 < k.length
  · have hc : chk k = 13 := by unfold chk okKey; simp; omega
    rw [hc]
    clear hc
    go_enter Try.func11, Try.ntmps11
    go_wp2
    go_ret
    exact ⟨rfl, rfl⟩
  · have hc : chk k = 0 := by unfold chk okKey; simp; omega
    rw [hc]
    clear hc
    go_enter Try.func11, Try.ntmps11
    go_wp2
    go_ret
    exact ⟨rfl, rfl⟩

set_option maxHeartbeats 400000 in
theorem right_any (k : List UInt8) (w : World) :
    Calls Try.prog 12 #[.string ⟨k.toArray⟩] w fun e w' => e = .returned (.bool (okKey k)) ∧ w = w' := by
  by_cases h1 : k.length < 1
  · have hc : okKey k = false := by unfold okKey; simp; omega
    rw [hc]
    clear hc
    go_enter Try.func12, Try.ntmps12
    go_wp2
    go_ret
    exact ⟨rfl, rfl⟩
  by_cases h2 : 16 < k.length
  · have hc : okKey k = false := by unfold okKey; simp; omega
    rw [hc]
    clear hc
    go_enter Try.func12, Try.ntmps12
    go_wp2
    go_ret
    exact ⟨ret_bool (by simp; omega), rfl⟩
  · have hc : okKey k = true := by unfold okKey; simp; omega
    rw [hc]
    clear hc
    go_enter Try.func12, Try.ntmps12
    go_wp2
    go_ret
    exact ⟨ret_bool (by simp; omega), rfl⟩

set_option maxHeartbeats 400000 in
theorem put_bad (v : Int) (k : List UInt8) (w : World) (h : okKey k = false) :
    Calls Try.prog 10 #[.agg #[.int .i64 v, .string ⟨k.toArray⟩]] w fun e w' => e = .returned (.tuple #[.string ⟨#[]⟩, .int .i64 13]) ∧ Below w.heap.size w w' := by
  have hc : chk k = 13 := by unfold chk; rw [h]; rfl
  have HC := Lib.hid hc
  clear hc h
  go_enter Try.func10, Try.ntmps10
  go_wp2_with (go_at_call 11; refine (check_any k _).mono ?_; rintro e w' ⟨rfl, rfl⟩; rw [HC.out])
  go_ret2
  exact ⟨rfl, (Below.refl _ _).alloc (Nat.le_refl _) _⟩

set_option maxHeartbeats 400000 in
theorem put_good (v : Int) (hv : Ky.In v) (k : List UInt8) (w : World) (h : okKey k = true) :
    Calls Try.prog 10 #[.agg #[.int .i64 v, .string ⟨k.toArray⟩]] w fun e w' => e = .returned (.tuple #[.string ⟨(Ky.put v k).toArray⟩, .int .i64 0]) ∧ Below w.heap.size w w' := by
  have hc : chk k = 0 := by unfold chk; rw [h]; rfl
  have HC := Lib.hid hc
  have hk16 : k.length ≤ 16 := by unfold okKey at h; simp at h; omega
  have hcat : binOp .add 9 (.string ⟨(Ky.enc v).toArray⟩) (.string ⟨k.toArray⟩) = pure (.string ⟨(Ky.put v k).toArray⟩) := cat_run _ _ _ (by rw [Ky.enc_length]; omega)
  clear hc h
  go_enter Try.func10, Try.ntmps10
  go_wp2_with (go_at_call 11; refine (check_any k _).mono ?_; rintro e w' ⟨rfl, rfl⟩; rw [HC.out])
  have hb0 := (Below.refl w.heap.size w).alloc (Nat.le_refl _) (.cells #[.int .i64 v, .string ⟨k.toArray⟩] 23)
  have c0 : (w.alloc (.cells #[.int .i64 v, .string ⟨k.toArray⟩] 23)).cell? ⟨w.heap.size, 0, none⟩ = some (.int .i64 v) := by simp
  have c1 : (w.alloc (.cells #[.int .i64 v, .string ⟨k.toArray⟩] 23)).cell? ⟨w.heap.size, 1, none⟩ = some (.string ⟨k.toArray⟩) := by simp
  have HB0 := Lib.hid hb0
  have C0 := Lib.hid c0
  have C1 := Lib.hid c1
  clear hb0 c0 c1
  generalize w.alloc (.cells #[.int .i64 v, .string ⟨k.toArray⟩] 23) = W0 at *
  go_region_held3 (fun W => W.cell? ⟨w.heap.size, 0, none⟩ = some (.int .i64 v) ∧ W.cell? ⟨w.heap.size, 1, none⟩ = some (.string ⟨k.toArray⟩))
    (first | exact ⟨C0.out, C1.out⟩ | exact ⟨old_cell C0.out HB1.out, old_cell C1.out HB1.out⟩)
    (first | (go_at_call 19; refine (prefix_any v hv _).mono ?_; rintro e w1 ⟨rfl, hb1⟩; have HB1 := Lib.hid ((Below.refl W0.heap.size W0).drew.trans hb1); clear hb1))
  go_wp2
  go_ret2
  exact ⟨rfl, HB0.out.trans (HB1.out.mono HB0.out.size)⟩
end Go.Proofs.Ytakgpljpdcjmfaa
