/- The walks that make memory: Four, Seal, Clone, Open. -/
import Derived.Test.YtfpbgfhifbgokaaDoorSumWalks
import Derived.WalkSpells
namespace Go.Proofs.YtfpbgfhifbgokaaDoor
open Go.RowKit

theorem Tryd.infoByte : (Tryd.prog.info? 5).map (fun i => (i.zero, i.size, i.bytes)) = some (some (.int .u8 0), 1, 1) := by kernel_rfl

theorem four_cells (n : Nat) : [Value.int .u8 ((n : Int) % 256), .int .u8 ((n : Int) / 256 % 256), .int .u8 ((n : Int) / 65536 % 256), .int .u8 ((n : Int) / 16777216 % 256)] = bytesV (Crc.four n) := by
  simp [bytesV, Crc.four]

set_option maxHeartbeats 400000 in
theorem four_any (n : Nat) (hn : n ≤ 4294967295) (w : World) :
    Calls Tryd.prog 14 #[.int .i64 n] w fun e w' => GivesB w (Crc.four n) e w' := by
  go_enter Tryd.func14, Tryd.ntmps14
  go_wp2
  go_ret
  have h := Rd.made w (bytesV (Crc.four n)) 5 1 4 rfl (by decide) (bytesV_one _) (0, 0)
  rw [← four_cells] at h
  exact ⟨_, _, rfl, by unfold RdB; rw [← four_cells]; exact h, (Below.refl _ _).alloc (Nat.le_refl _) _⟩

set_option maxHeartbeats 400000 in
theorem clone_any (a : Option Addr) (c : Nat) (bs : List UInt8) (w : World) (hrd : RdB w a c bs) (hlen : bs.length ≤ 140737488355328) :
    Calls Tryd.prog 21 #[.slice a bs.length c] w fun e w' => GivesB w bs e w' := by
  have hnil := fun (w : World) (n c n' c' : Nat) => Lib.run_eql_slice_nil (P := Tryd.prog) w 22 5 a n c n' c' Tryd.underlying22
  cases a with
  | none =>
    have hb : bs = [] := by
      have h1 := Rd.nil hrd rfl
      have h2 := Rd.le hrd
      exact List.eq_nil_of_length_eq_zero (by omega)
    go_enter Tryd.func21, Tryd.ntmps21
    go_wp2
    go_ret
    subst hb
    exact ⟨none, 0, rfl, Rd.nilSlice _ _, Below.refl _ _⟩
  | some x =>
    obtain ⟨i0, hi, hz0, hz1, hz2⟩ := info_parts Tryd.infoByte
    have hmade := World.ownsRow_made (e := 5) (size := 1) w #[] 0 (Nat.le_refl w.heap.size) (Nat.zero_le _) rfl
    have hlater : RdB (w.alloc (.cells #[] 5)) (some x) c bs := hrd.later ((Below.refl _ _).alloc (Nat.le_refl _) _)
    have H1 := Lib.hid hmade
    have H2 := Lib.hid hlater
    clear hmade hlater
    go_enter Tryd.func21, Tryd.ntmps21
    go_wp2_with (at_builtin; refine wpList_app rfl _ _ 22 rfl w.heap.size 5 i0 (.int .u8 0) 1 1 Tryd.underlying22 hi hz0 hz1 hz2 rfl (by decide) _ 0 0 [] rfl H1.out _ bs.length c (bytesV bs) rfl H2.out (by unfold maxLen; omega) (by omega) (by simp) ?_; intro a' c' w' hown hgrow)
    simp only [Nat.zero_add] at *
    go_ret
    obtain ⟨a2, c2, h2, hrd2, _⟩ := Rd.ofOwn hown (bytesV_one bs)
    cases h2
    refine ⟨_, _, rfl, hrd2, ?_⟩
    exact ((Below.refl _ _).alloc (Nat.le_refl _) _).grown hgrow (by simp) (fun k hk => by cases hk; exact Nat.le_refl _)

theorem four_take (n k : Nat) (hk : k < 4) : (Crc.four n).take k ++ [UInt8.ofNat (n / 256 ^ k)] = (Crc.four n).take (k + 1) := by
  match k, hk with
  | 0, _ => simp [Crc.four]
  | 1, _ => simp [Crc.four]
  | 2, _ => simp [Crc.four]
  | 3, _ => simp [Crc.four]

set_option maxRecDepth 100000 in
set_option maxHeartbeats 400000 in
theorem seal_any (a : Option Addr) (c : Nat) (bs : List UInt8) (w : World) (hrd : RdB w a c bs) (htab : Tab w) (hlen : bs.length ≤ 100000) :
    Calls Tryd.prog 16 #[.slice a bs.length c] w fun e w' => GivesB w (Crc.seal4 bs) e w' := by
  obtain ⟨i0, hi, hz0, hz1, hz2⟩ := info_parts Tryd.infoByte
  obtain ⟨S, hS, HS⟩ : ∃ S : Nat, S ≤ 4294967295 ∧ Hid (S = Crc.sum 0 bs) := ⟨_, Crc.sum_le 0 bs, Lib.hid rfl⟩
  have hsum := sum_any a c bs w hrd htab
  rw [← HS.out] at hsum
  have Hsum := Lib.hid hsum
  have Hrd := Lib.hid hrd
  clear hrd htab hsum
  go_enter Tryd.func16, Tryd.ntmps16
  go_wp2_with (first
    | (go_at_call 11; refine Hsum.out.mono ?_; rintro e w' ⟨rfl, rfl⟩)
    | (at_make; refine wpList_make_own _ rfl _ _ 22 rfl w.heap.size 5 i0 (.int .u8 0) 1 Tryd.underlying22 hi hz0 hz1 _ _ _ (bs.length + 4) rfl rfl (by omega) (by rw [hz2]; omega) (by unfold maxLen; omega) (Nat.le_refl _) ?_; intro w1 hown hgrow)
    | (at_builtin; refine wpList_app rfl _ _ 22 rfl w.heap.size 5 i0 (.int .u8 0) 1 1 Tryd.underlying22 hi hz0 hz1 hz2 rfl (by decide) _ 0 (bs.length + 4) [] rfl hown _ bs.length c (bytesV bs) rfl (Rd.later Hrd.out ((Below.refl _ _).grown hgrow (Nat.le_refl _) (by simp))) (by unfold maxLen; omega) (by omega) hgrow.size ?_; intro a2 c2 w2 hown2 hgrow2))
  simp only [Nat.zero_add, List.nil_append] at hown2
  have hb1 := (Below.refl w.heap.size w).grown hgrow (Nat.le_refl _) (by simp)
  have hb2 := hb1.grown hgrow2 hb1.size (fun k hk => by cases hk; exact Nat.le_refl _)
  have H0 := Lib.hid hown2
  have HB := Lib.hid hb2
  clear hown hgrow hown2 hgrow2 hb1 hb2
  go_loopw [3, 4, 14] (fun s v i wr => ∃ (k m : Nat) (a' : Option Addr) (c' : Nat), k ≤ 4 ∧ i = .int .i64 k ∧ s = .int .i64 m ∧ v = .slice a' (bs.length + k) c' ∧ m ≤ 4294967295 ∧
    Hid (m = S / 256 ^ k ∧ wr.ownsRow w.heap.size 5 1 (.slice a' (bs.length + k) c') (bs.length + k) (bytesV (bs ++ (Crc.four S).take k)) ∧ Below w.heap.size w wr)) (fun _ _ i _ => 4 - (intOf i).toNat)
  case atStart => exact ⟨0, S, a2, c2, by omega, rfl, rfl, rfl, hS, Lib.hid ⟨by simp, by simpa using H0.out, HB.out⟩⟩
  case round =>
    obtain ⟨k, m, a', c', hk, rfl, rfl, rfl, hm, HR⟩ := hrel
    by_cases hlt : k < 4
    · have hand : bits .and .i64 (m : Int) 255 = (m : Int) % 256 := i64_and255 _
      have hcell : (m : Int) % 256 = ((UInt8.ofNat m).toNat : Int) := by simp
      have HC := Lib.hid hcell
      clear hcell
      go_wp2_with (at_builtin; refine wpList_app rfl _ _ 22 rfl w.heap.size 5 i0 (.int .u8 0) 1 1 Tryd.underlying22 hi hz0 hz1 hz2 rfl (by decide) _ (bs.length + k) c' _ rfl (HR.out.2.1.alloc _) _ 1 1 [.int .u8 ((m : Int) % 256)] rfl (Rd.oneNew _ _ _ rfl) (by unfold maxLen; omega) (by omega) (by have := HR.out.2.2.size; simp; omega) ?_; intro a3 c3 w3 hown3 hgrow3)
      have hsz := HR.out.2.2.size
      have hb3 := (HR.out.2.2.alloc hsz (.cells #[.int .u8 ((m : Int) % 256)] 5)).grown hgrow3 (by simp; omega) (fun j hj => (HR.out.2.1.lt j hj).1)
      have hown4 : w3.ownsRow w.heap.size 5 1 (.slice a3 (bs.length + (k + 1)) c3) (bs.length + (k + 1)) (bytesV (bs ++ (Crc.four S).take (k + 1))) := by
        have e : bytesV (bs ++ (Crc.four S).take (k + 1)) = bytesV (bs ++ (Crc.four S).take k) ++ [.int .u8 ((m : Int) % 256)] := by
          rw [← four_take S k hlt, ← List.append_assoc, bytesV_append (bs ++ _), HC.out, HR.out.1]; rfl
        rw [e]; exact hown3
      have HR3 := Lib.hid (And.intro (show m / 256 = S / 256 ^ (k + 1) by rw [HR.out.1, Nat.div_div_eq_div_mul]; rfl) (And.intro hown4 hb3))
      clear hown3 hgrow3 hown4 hb3
      go_wp2
      go_roundw
      case rel => exact ⟨k + 1, m / 256, a3, c3, by omega, by go_num, by go_num, by rfl, by omega, HR3⟩
      case measure => simp [intOf]; omega
    · obtain rfl : k = 4 := by omega
      go_wp2
      go_ret
      obtain ⟨_, ho, hb⟩ := HR.out
      obtain ⟨a5, c5, h5, hr5, _⟩ := Rd.ofOwn ho (bytesV_one _)
      cases h5
      have e : bs ++ (Crc.four S).take 4 = Crc.seal4 bs := by unfold Crc.seal4; rw [HS.out]; rfl
      rw [e] at hr5
      have hl : (Crc.seal4 bs).length = bs.length + 4 := by simp [Crc.seal4, Crc.four]
      exact ⟨_, _, by rw [hl]; rfl, by unfold RdB; rw [hl]; exact hr5, hb⟩

theorem Tryd.sizeByte (w : World) : (sizeOf (Tryd.prog.elem 22)).run Tryd.prog w = .ok 1 w := by kernel_rfl

theorem open_short (a : Option Addr) (c : Nat) (bs : List UInt8) (w : World) (hs : bs.length < 4) :
    Calls Tryd.prog 17 #[.slice a bs.length c] w fun e w' => e = .returned (.tuple #[.slice none 0 0, .int .i64 11]) ∧ w = w' := by
  have h : (bs.length : Int) < 4 := by omega
  go_enter Tryd.func17, Tryd.ntmps17
  go_wp2
  go_ret2
  exact ⟨rfl, rfl⟩

/-- The bytes ahead of the last four. -/
def body (bs : List UInt8) : List UInt8 := bs.take (bs.length - 4)
theorem body_length (bs : List UInt8) : (body bs).length = bs.length - 4 := by simp [body]

set_option maxHeartbeats 400000 in
theorem open_bad (a : Option Addr) (c : Nat) (bs : List UInt8) (w : World) (hrd : RdB w a c bs) (htab : Tab w) (hs : 4 ≤ bs.length) (hlen : bs.length ≤ 100000) (hne : bs ≠ Crc.seal4 (body bs)) :
    Calls Tryd.prog 17 #[.slice a bs.length c] w fun e w' => e = .returned (.tuple #[.slice none 0 0, .int .i64 12]) ∧ Below w.heap.size w w' := by
  have hle := hrd.le
  have h1 : (4 : Int) ≤ (bs.length : Int) := by omega
  have hsl := fun wx => run_slice_to (P := Tryd.prog) 22 Tryd.underlying22 1 Tryd.sizeByte a bs.length c .i64 ((bs.length : Int) - 4) (body bs).length (by rw [body_length]; omega) (by rw [body_length]; omega) wx
  have HB : Hid (RdB w a c (body bs)) := Lib.hid (hrd.to (bs.length - 4) (by omega))
  have Hrd := Lib.hid hrd
  have HT := Lib.hid htab
  have hd : decide (bs = Crc.seal4 (body bs)) = false := decide_eq_false hne
  have HD := Lib.hid hd
  have hbl : (body bs).length ≤ 100000 := by rw [body_length]; omega
  clear hrd htab hd hne hle
  go_enter Tryd.func17, Tryd.ntmps17
  go_wp2_with (first
    | (go_at_call 16; refine (seal_any _ _ _ _ HB.out HT.out hbl).mono ?_; rintro e w1 ⟨a1, c1, rfl, hr1, hb1⟩)
    | (go_at_call 20; refine (equal_any _ _ _ _ _ _ _ (Hrd.out.later hb1) hr1).mono ?_; rintro e w2 ⟨rfl, n2, rfl⟩; rw [HD.out]))
  go_ret2
  exact ⟨rfl, below_drewN hb1 _⟩

set_option maxHeartbeats 400000 in
theorem open_good (a : Option Addr) (c : Nat) (bs : List UInt8) (w : World) (hrd : RdB w a c bs) (htab : Tab w) (hs : 4 ≤ bs.length) (hlen : bs.length ≤ 100000) (heq : bs = Crc.seal4 (body bs)) :
    Calls Tryd.prog 17 #[.slice a bs.length c] w fun e w' => ∃ a' c', e = .returned (.tuple #[.slice a' (body bs).length c', .int .i64 0]) ∧ RdB w' a' c' (body bs) ∧ Below w.heap.size w w' := by
  have hle := hrd.le
  have h1 : (4 : Int) ≤ (bs.length : Int) := by omega
  have hsl := fun wx => run_slice_to (P := Tryd.prog) 22 Tryd.underlying22 1 Tryd.sizeByte a bs.length c .i64 ((bs.length : Int) - 4) (body bs).length (by rw [body_length]; omega) (by rw [body_length]; omega) wx
  have HB : Hid (RdB w a c (body bs)) := Lib.hid (hrd.to (bs.length - 4) (by omega))
  have Hrd := Lib.hid hrd
  have HT := Lib.hid htab
  have hd : decide (bs = Crc.seal4 (body bs)) = true := decide_eq_true heq
  have HD := Lib.hid hd
  have hbl : (body bs).length ≤ 100000 := by rw [body_length]; omega
  clear hrd htab hd heq hle
  go_enter Tryd.func17, Tryd.ntmps17
  go_wp2_with (first
    | (go_at_call 16; refine (seal_any _ _ _ _ HB.out HT.out hbl).mono ?_; rintro e w1 ⟨a1, c1, rfl, hr1, hb1⟩)
    | (go_at_call 20; refine (equal_any _ _ _ _ _ _ _ (Hrd.out.later hb1) hr1).mono ?_; rintro e w2 ⟨rfl, n2, rfl⟩; rw [HD.out])
    | (go_at_call 21; refine (clone_any _ _ _ _ (HB.out.later (below_drewN hb1 n2)) (by omega)).mono ?_; rintro e w3 ⟨a3, c3, rfl, hr3, hb3⟩))
  go_ret2
  exact ⟨_, _, rfl, hr3, (below_drewN hb1 _).trans (hb3.mono hb1.size)⟩
end Go.Proofs.YtfpbgfhifbgokaaDoor
