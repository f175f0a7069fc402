/- Joined: Tbfn3. -/
import Derived.Test.YtecnijnmgdfdhaaYTbfn2
import Derived.Test.YtecnijnmgdfdhaaYTblaw5
import Derived.Test.YtecnijnmgdfdhaaYTbOpen2
/- The laws of package table: Finds (Find tells what the document's Find has); TableFinds. -/
namespace Go.Proofs.Ytecnijnmgdfdhaa
namespace Tb
open Go.RowKit Tr
open Ky (less)
section
variable {B : Nat} {w0 w V : World} {X Y : List Rs} {tb r most o : Nat} {L : List Pr}
set_option maxHeartbeats 8000000 in
set_option maxRecDepth 100000 in
theorem own_finds (ac lo hi am : Int) (hlo : Ky.In lo) (hhi : Ky.In hi) (h : Own B w0 (TabR tb most o L :: DocR r most L :: X) w) :
    Calls Try.prog 23 #[ptrV tb, ptrV r, .agg #[.int .i64 ac, .int .i64 lo, .int .i64 hi, .int .i64 am]] w fun e V => e = .returned (.bool true) ∧ Own B w0 (TabR tb most o L :: DocR r most L :: X) V := by
  have ok := own_tabOk h
  have hsrt : Sorted L := own_tabSorted h
  have HB := Lib.hid (own_cells h #[.int .i64 ac, .int .i64 lo, .int .i64 hi, .int .i64 am] 43)
  obtain ⟨W, hW⟩ : ∃ W, w.alloc (.cells #[.int .i64 ac, .int .i64 lo, .int .i64 hi, .int .i64 am] 43) = W := ⟨_, rfl⟩
  rw [hW] at HB
  have HC : Hid (∀ (Y : List Rs) V, Own B w0 Y V → CellsR w.heap.size [.int .i64 ac, .int .i64 lo, .int .i64 hi, .int .i64 am] ∈ Y → V.cell? ⟨w.heap.size, 0, none⟩ = some (.int .i64 ac) ∧ V.cell? ⟨w.heap.size, 1, none⟩ = some (.int .i64 lo) ∧ V.cell? ⟨w.heap.size, 2, none⟩ = some (.int .i64 hi) ∧ V.cell? ⟨w.heap.size, 3, none⟩ = some (.int .i64 am)) := Lib.hid (fun Y V h hm =>
    ⟨(own_cellM h hm (i := 0) rfl).1, (own_cellM h hm (i := 1) rfl).1, (own_cellM h hm (i := 2) rfl).1, (own_cellM h hm (i := 3) rfl).1⟩)
  obtain ⟨x0, x1, x2, x3⟩ := HC.out _ _ HB.out (by simp)
  by_cases hcol : ac < 0 ∨ 4 ≤ ac
  · have HFd := Lib.hid (findTb_col tb ac lo hi am hcol W)
    clear h ok
    rcases hcol with hcol | hcol
    · go_enter Try.func23, Try.ntmps23
      go_wp2_with (go_at_call 14; refine HFd.out.mono ?_; rintro e V4 ⟨rfl, hb⟩; have H4 := Lib.hid (HB.out.later hb); obtain ⟨z0, z1, z2, z3⟩ := HC.out _ _ H4.out (by simp); clear hb)
      go_ret
      exact ⟨rfl, H4.out.drop⟩
    · have hc1 : ¬ ac < 0 := by omega
      have hc2 : (3 : Int) < ac := by omega
      go_enter Try.func23, Try.ntmps23
      go_wp2_with (go_at_call 14; refine HFd.out.mono ?_; rintro e V4 ⟨rfl, hb⟩; have H4 := Lib.hid (HB.out.later hb); obtain ⟨z0, z1, z2, z3⟩ := HC.out _ _ H4.out (by simp); clear hb)
      go_ret
      exact ⟨rfl, H4.out.drop⟩
  obtain ⟨c, rfl⟩ : ∃ n : Nat, ac = n := ⟨ac.toNat, by omega⟩
  have hc : c < 4 := by omega
  have hc0 : ¬ (c : Int) < 0 := by omega
  have hc3 : ¬ (3 : Int) < (c : Int) := by omega
  by_cases hbad : hi < lo
  · have HFd := Lib.hid (findTb_bad tb c hc lo hi am hbad W)
    clear h ok hcol
    go_enter Try.func23, Try.ntmps23
    go_wp2_with (go_at_call 14; refine HFd.out.mono ?_; rintro e V4 ⟨rfl, hb⟩; have H4 := Lib.hid (HB.out.later hb); obtain ⟨z0, z1, z2, z3⟩ := HC.out _ _ H4.out (by simp); clear hb)
    go_ret
    exact ⟨rfl, H4.out.drop⟩
  by_cases hneg : am < 0
  · have HFd := Lib.hid (findTb_neg tb c hc lo hi am hlo hhi hbad hneg W)
    clear h ok hcol
    go_enter Try.func23, Try.ntmps23
    go_wp2_with (go_at_call 14; refine HFd.out.mono ?_; rintro e V4 ⟨rfl, hb⟩; have H4 := Lib.hid (HB.out.later hb); obtain ⟨z0, z1, z2, z3⟩ := HC.out _ _ H4.out (by simp); clear hb)
    go_ret
    exact ⟨rfl, H4.out.drop⟩
  obtain ⟨m, rfl⟩ : ∃ n : Nat, am = n := ⟨am.toNat, by omega⟩
  have hm0 : ¬ (m : Int) < 0 := by omega
  have hfd := own_findR c hc lo hi hlo hhi hbad m HB.out.swap
  have hK := findF_keys (c := c) ok.ok hsrt hlo hhi
  have hKl := keys_len ok hsrt c lo hi
  obtain ⟨K, hKd⟩ : ∃ K, (keysOf (hits c lo hi L)).take m = K := ⟨_, rfl⟩
  have HKl : Hid (K.length ≤ 1024) := Lib.hid (by rw [← hKd, List.length_take]; omega)
  rw [hKd] at hfd
  have HFd : Hid (Calls Try.prog 14 #[ptrV tb, .int .i64 c, .int .i64 lo, .int .i64 hi, .int .i64 m] W fun e V => ∃ (a : Option Addr) (k : Nat), e = .returned (.tuple #[.slice a K.length k, .int .i64 0]) ∧ Own B w0 (SlR 1 a K.length k (textsV K) :: TabR tb most o L :: CellsR w.heap.size [.int .i64 c, .int .i64 lo, .int .i64 hi, .int .i64 m] :: DocR r most L :: X) V) := Lib.hid hfd
  have HDoc : Hid (∀ (Y : List Rs) V, Own B w0 (DocR r most L :: Y) V → Calls Try.prog 45 #[ptrV r, .int .i64 c, .agg #[.int .i64 lo, .int .i64 hi], .int .i64 m] V fun e V2 => ∃ (b : Option Addr) (k : Nat), e = .returned (.slice b K.length k) ∧ Own B w0 (SlR 1 b K.length k (textsV K) :: DocR r most L :: Y) V2) := Lib.hid (fun Y V h => by
    obtain ⟨a, cc, hA⟩ := own_docOpen h
    obtain ⟨F, ht⟩ := own_docM hA (List.mem_cons_self ..)
    have := docFind_any c hc lo hi m (by have := ok.len; have := ok.hi; omega) ok.ok hsrt V ht
    rw [hK, hKd] at this
    exact this.mono (fun e V2 ⟨b, k, e1, e2⟩ => ⟨b, k, e1, h.beside e2⟩))
  have HTx : Hid (∀ V a k b d, Rd V 1 a K.length k (textsV K) → Rd V 1 b K.length d (textsV K) → Calls Try.prog 17 #[.slice a K.length k, .slice b K.length d] V fun e V2 => e = .returned (.bool true) ∧ Below V.heap.size V V2) := Lib.hid (fun V a k b d h1 h2 => by
    have := texts_any a k K b d K V (by have := HKl.out; omega) h1 h2
    simpa using this)
  clear h ok hsrt hcol hKd hfd hK hKl HB hneg
  obtain ⟨N, hN⟩ : ∃ N, K.length = N := ⟨_, rfl⟩
  rw [hN] at HFd HDoc HTx
  clear hN
  go_enter Try.func23, Try.ntmps23
  go_wp2_with (first
    | (go_at_call 14; refine HFd.out.mono ?_; rintro e V4 ⟨fa, fk, rfl, h4⟩; have H4 := Lib.hid h4; obtain ⟨z0, z1, z2, z3⟩ := HC.out _ _ h4 (by simp); clear h4)
    | (go_at_call 45; refine (HDoc.out _ _ (H4.out.perm (List.perm_middle (l₁ := [_, _, _])))).mono ?_; rintro e V5 ⟨fb, fd, rfl, h5⟩; have H5 := Lib.hid h5; have HR2 := Lib.hid (And.intro (own_rd h5.third) (own_rd h5)); clear h5)
    | (go_at_call 17; refine (HTx.out _ _ _ _ _ HR2.out.1 HR2.out.2).mono ?_; rintro e V6 ⟨rfl, hb⟩; have H6 := Lib.hid (H5.out.later hb); clear hb))
  go_ret
  exact ⟨rfl, H6.out.drop.swap.drop.swap.third.drop⟩
end
end Tb
end Go.Proofs.Ytecnijnmgdfdhaa
