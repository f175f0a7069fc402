/- The checker's own numbers-as-bytes: Value, Number. -/
import Derived.Test.YtakgpljpdcjmfaaKeysWalks3
import Derived.Laws.OwnMore
import Derived.Laws.MakeOwn
namespace Go.Proofs.Ytakgpljpdcjmfaa
open Go.RowKit

theorem tdm (v : Int) : (v.tmod 256 < 0 ∧ v.tmod 256 + 256 = v % 256 ∧ v.tdiv 256 - 1 = v / 256) ∨ (0 ≤ v.tmod 256 ∧ v.tmod 256 = v % 256 ∧ v.tdiv 256 = v / 256) := by
  by_cases h : 0 ≤ v
  · right
    rw [Int.tmod_eq_emod_of_nonneg h, Int.tdiv_eq_ediv_of_nonneg h]
    omega
  · obtain ⟨n, rfl⟩ : ∃ n : Nat, v = -(n : Int) := ⟨v.natAbs, by omega⟩
    rw [Int.neg_tmod, Int.neg_tdiv, Int.tmod_eq_emod_of_nonneg (by omega), Int.tdiv_eq_ediv_of_nonneg (by omega)]
    omega
/-- The number behind k divisions; the bytes so far. -/
def Vk (v : Int) : Nat → Int
  | 0 => v
  | k + 1 => Vk v k / 256
def Lk (v : Int) : Nat → List UInt8
  | 0 => []
  | k + 1 => UInt8.ofNat (Vk v k % 256).toNat :: Lk v k
def Dk (v : Int) (k : Nat) : List UInt8 := List.replicate (8 - k) 0 ++ Lk v k
theorem Lk_length (v : Int) (k : Nat) : (Lk v k).length = k := by
  induction k with
  | zero => rfl
  | succ k ih => simp [Lk, ih]
theorem Dk_length (v : Int) {k : Nat} (h : k ≤ 8) : (Dk v k).length = 8 := by simp [Dk, Lk_length]; omega
theorem Dk_set (v : Int) (k : Nat) (h : k < 8) : (Dk v k).set (7 - k) (UInt8.ofNat (Vk v k % 256).toNat) = Dk v (k + 1) := by
  unfold Dk
  rw [show 8 - k = (7 - k) + 1 by omega, List.replicate_succ', List.append_assoc, List.set_append_right _ _ (by simp), List.length_replicate, Nat.sub_self, show 8 - (k + 1) = 7 - k by omega]
  rfl
theorem Vk_in {v : Int} (hv : Ky.In v) (k : Nat) : Ky.In (Vk v k) := by
  induction k with
  | zero => exact hv
  | succ k ih => unfold Ky.In at *; rw [Vk]; omega
theorem Dk_last {v : Int} (hv : Ky.In v) : (Dk v 8).set 0 (UInt8.ofNat ((Vk v 7 % 256 + 128) % 256).toNat) = Ky.enc v := by
  unfold Ky.In at hv
  simp only [Dk, Nat.sub_self, List.replicate_zero, List.nil_append, Lk, Vk, List.set_cons_zero, Ky.enc, Ky.be, List.append_nil, List.nil_append, List.cons_append]
  have hn : Ky.nat v = (v + 9223372036854775808).toNat := rfl
  obtain ⟨n, hN⟩ : ∃ n, Ky.nat v = n := ⟨_, rfl⟩
  rw [hN] at hn ⊢
  simp only [List.cons.injEq, and_true]
  refine ⟨?_, ?_, ?_, ?_, ?_, ?_, ?_, ?_⟩ <;> (refine UInt8.toNat_inj.1 ?_; rw [UInt8.toNat_ofNat', UInt8.toNat_ofNat']; omega)

theorem Try.infoByte : (Try.prog.info? 5).map (fun i => (i.zero, i.size, i.bytes)) = some (some (.int .u8 0), 1, 1) := by kernel_rfl
theorem make8 : ∃ M : Array Value, M.toList = bytesV (List.replicate 8 0) ∧ ∀ W : World, (Instr.makeSlice 30 (.int .i64 8) (.int .i64 8)).run Try.prog W = .ok (.slice (some ⟨W.heap.size, 0, none⟩) 8 8) (W.alloc (.cells M 5)) := by
  obtain ⟨i0, hi, hz0, hz1, hz2⟩ := info_parts Try.infoByte
  refine ⟨madeCells (Value.int .u8 0).cells 8, by kernel_rfl, fun W => ?_⟩
  have h := run_make (P := Try.prog) W 30 5 i0 (.int .u8 0) Try.underlying30 hi hz0 .i64 .i64 8 8 (by omega) (by omega) (by rw [hz2]; omega) (by omega)
  rw [hz1] at h
  exact h
set_option maxRecDepth 100000 in
set_option maxHeartbeats 1000000 in
theorem refValue (v : Int) (hv : Ky.In v) (w : World) :
    Calls Try.prog 13 #[.int .i64 v] w fun e w' => GivesB w (Ky.enc v) e w' := by
  have HV := Lib.hid hv
  obtain ⟨M, hM, hmk⟩ := make8
  have HM := Lib.hid hM
  clear hv hM
  go_enter Try.func13, Try.ntmps13
  go_wp2
  go_loopw [0, 4] (fun x i wr => ∃ k : Nat, k ≤ 8 ∧ i = .int .i64 (7 - (k : Int)) ∧ x = .int .i64 (Vk v k) ∧
    Hid (wr.ownsRow w.heap.size 5 1 (.slice (some ⟨w.heap.size, 0, none⟩) 8 8) 8 (bytesV (Dk v k)) ∧ Below w.heap.size w wr)) (fun _ i _ => (intOf i + 1).toNat)
  case atStart =>
    refine ⟨0, by omega, rfl, rfl, Lib.hid ⟨⟨rfl, .inr ⟨w.heap.size, 8, _, rfl, Nat.le_refl _, heap_alloc_new w _, by omega, by decide, by rw [← Array.length_toList, HM.out]; rfl, by rw [HM.out]; rfl⟩⟩, (Below.refl _ _).alloc (Nat.le_refl _) _⟩⟩
  case round =>
    obtain ⟨k, hk, rfl, rfl, HR⟩ := hrel
    by_cases hlt : k < 8
    · have hin := Vk_in HV.out k
      have hst := Dk_set v k hlt
      have hnx : Vk v (k + 1) = Vk v k / 256 := rfl
      generalize Vk v k = x at *
      have HST := Lib.hid (HR.out.1.stored (7 - k) (.int .u8 (x % 256)))
      have hes : bytesV (Dk v (k + 1)) = (bytesV (Dk v k)).set (7 - k) (.int .u8 (x % 256)) := by
        rw [← hst]
        unfold bytesV
        rw [List.map_set, UInt8.toNat_ofNat']
        congr 2
        omega
      have hrel2 : ∀ wn, wn = wr.setCell ⟨w.heap.size, 7 - k, none⟩ (.int .u8 (x % 256)) → Hid (wn.ownsRow w.heap.size 5 1 (.slice (some ⟨w.heap.size, 0, none⟩) 8 8) 8 (bytesV (Dk v (k + 1))) ∧ Below w.heap.size w wn) := by
        rintro _ rfl
        rw [hes]
        exact Lib.hid ⟨HST.out.1, HR.out.2.setCell (p := ⟨w.heap.size, 7 - k, none⟩) (Nat.le_refl _) _⟩
      have HREL := Lib.hid hrel2
      have hdl := Dk_length v hk
      obtain ⟨u0, hu0⟩ : ∃ u, (bytesV (Dk v k))[7 - k]? = some u := ⟨_, List.getElem?_eq_getElem (by rw [bytesV_length, hdl]; omega)⟩
      have hcg : wr.cell? ⟨w.heap.size, 7 - k, none⟩ = some u0 := by rw [HR.out.1.cellAt (7 - k) (by omega)]; exact hu0
      have hfg : wr.frozen? ⟨w.heap.size, 7 - k, none⟩ = false := HR.out.1.frozenAt (7 - k)
      have ht := tdm x
      unfold Ky.In at hin
      have hyb : -36028797018963968 ≤ x.tdiv 256 ∧ x.tdiv 256 ≤ 36028797018963968 := by omega
      have hqb : -256 ≤ x.tmod 256 ∧ x.tmod 256 < 256 := by omega
      clear hst hu0 hdl hes hrel2
      obtain ⟨q, hq⟩ : ∃ q, x.tmod 256 = q := ⟨_, rfl⟩
      obtain ⟨y, hy⟩ : ∃ y, x.tdiv 256 = y := ⟨_, rfl⟩
      rw [hq] at ht hqb
      rw [hy] at ht hyb
      obtain ⟨hyb1, hyb2⟩ := hyb
      obtain ⟨hqb1, hqb2⟩ := hqb
      have j1 : (0 : Int) ≤ 7 - (k : Int) := by omega
      have j2 : (7 - (k : Int)).toNat = 7 - k := by omega
      have j3 : (7 - (k : Int)) < 8 := by omega
      rcases ht with ⟨hn, e1, e2⟩ | ⟨hn, e1, e2⟩
      · have E1 := Lib.hid e1
        have E2 := Lib.hid (show y - 1 = Vk v (k + 1) by rw [hnx]; exact e2)
        clear e1 e2 hnx hin
        go_wp2
        go_roundw
        case rel => exact ⟨k + 1, by omega, congrArg (Value.int .i64) (by omega), by rw [E2.out], HREL.out _ (by rw [E1.out])⟩
        case measure => simp [intOf]; omega
      · have E1 := Lib.hid e1
        have E2 := Lib.hid (show y = Vk v (k + 1) by rw [hnx]; exact e2)
        clear e1 e2 hnx hin
        go_wp2
        go_roundw
        case rel => exact ⟨k + 1, by omega, congrArg (Value.int .i64) (by omega), by rw [E2.out], HREL.out _ (by rw [E1.out])⟩
        case measure => simp [intOf]; omega
    · obtain rfl : k = 8 := by omega
      have hl := Dk_last HV.out
      have h8 : Dk v 8 = UInt8.ofNat (Vk v 7 % 256).toNat :: Lk v 7 := rfl
      generalize hb : UInt8.ofNat (Vk v 7 % 256).toNat = b at *
      have hbn : (b.toNat : Int) = Vk v 7 % 256 := by rw [← hb, UInt8.toNat_ofNat']; omega
      have hbl := b.toNat_lt
      have hu0 : (bytesV (Dk v 8))[0]? = some (.int .u8 b.toNat) := by rw [h8]; rfl
      have hcg : wr.cell? ⟨w.heap.size, 0, none⟩ = some (.int .u8 b.toNat) := by rw [HR.out.1.cellAt 0 (by omega)]; exact hu0
      have hfg : wr.frozen? ⟨w.heap.size, 0, none⟩ = false := HR.out.1.frozenAt 0
      have HST := Lib.hid (HR.out.1.stored 0 (.int .u8 (((b.toNat : Int) + 128) % 256)))
      have hes : (bytesV (Dk v 8)).set 0 (.int .u8 (((b.toNat : Int) + 128) % 256)) = bytesV (Ky.enc v) := by
        rw [← hl]
        unfold bytesV
        rw [List.map_set, UInt8.toNat_ofNat', hbn]
        congr 2
        omega
      have HFIN : Hid (∀ wn, wn = wr.setCell ⟨w.heap.size, 0, none⟩ (.int .u8 (((b.toNat : Int) + 128) % 256)) → GivesB w (Ky.enc v) (.returned (.slice (some ⟨w.heap.size, 0, none⟩) 8 8)) wn) := Lib.hid (by
        rintro _ rfl
        have h1 := HST.out.1
        rw [hes] at h1
        obtain ⟨a, c, he, hrd, _⟩ := Rd.ofOwn h1 (bytesV_one _)
        cases he
        exact ⟨_, _, by rw [Ky.enc_length], by unfold RdB; rw [Ky.enc_length]; exact hrd, HR.out.2.setCell (p := ⟨w.heap.size, 0, none⟩) (Nat.le_refl _) _⟩)
      have hm1 : ((b.toNat : Int) + 128).tmod 256 = ((b.toNat : Int) + 128) % 256 := Int.tmod_eq_emod_of_nonneg (by omega)
      have hm2 : (((b.toNat : Int) + 128) % 256) % 256 = ((b.toNat : Int) + 128) % 256 := by omega
      clear hl h8 hb hbn hu0 HST hes HR HV
      go_wp2
      go_ret
      exact HFIN.out _ (by first | rfl | rw [hm2])
end Go.Proofs.Ytakgpljpdcjmfaa
