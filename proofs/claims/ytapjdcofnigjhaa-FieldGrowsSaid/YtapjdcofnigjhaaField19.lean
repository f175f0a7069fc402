/- The laws of package field: FieldGrows. -/
import Derived.Test.YtapjdcofnigjhaaField18
import Derived.Deep.Cut
namespace Go.Proofs.Ytapjdcofnigjhaa
open Go.RowKit
theorem in_of_wf' {n : Int} (h : (Lit.int .i64 n).wf = true) : Fd.In n := by
  simp [Lit.wf, IntKind.min, IntKind.max, IntKind.signed, IntKind.bits] at h
  exact h
set_option maxRecDepth 100000 in
set_option maxHeartbeats 4000000 in
theorem fieldGrows_walk (a b : Int) (s : List UInt8) (ha : (Lit.int .i64 a).wf = true) (hb : (Lit.int .i64 b).wf = true) (w : World) :
    Calls Try.prog 12 #[.int .i64 a, .int .i64 b, .string ⟨s.toArray⟩] w (FYes w) := by
  have hsz := text_size s
  by_cases hs : 100 < s.length
  · have hs' : (100 : Int) < (s.length : Int) := by omega
    go_enter Try.func12, Try.ntmps12
    go_wp2_with (go_at_call 23; refine (awake02 _).mono ?_; rintro e w4 ⟨rfl, hb⟩; have H4 := Lib.hid hb; clear hb)
    go_ret
    exact ⟨rfl, H4.out⟩
  have hs' : (s.length : Int) ≤ 100 := by omega
  have hain := in_of_wf' ha
  have hbin := in_of_wf' hb
  have a1 : -9223372036854775808 ≤ a := hain.1
  have a2 : a ≤ 9223372036854775807 := hain.2
  have b1 : -9223372036854775808 ≤ b := hbin.1
  have b2 : b ≤ 9223372036854775807 := hbin.2
  have HIN := Lib.hid (And.intro hain hbin)
  have h10a := Fd.grp_ten (Fd.zig_lt hain)
  have h10b := Fd.grp_ten (Fd.zig_lt hbin)
  have h10s := Fd.grp_nine (n := s.length) (by omega)
  have hpa := Fd.grp_pos (Fd.zig a)
  obtain ⟨Z1, e1⟩ : ∃ Z1, Z1 = [] ++ Fd.grp (Fd.zig a) := ⟨_, rfl⟩
  obtain ⟨Z2, e2⟩ : ∃ Z2, Z2 = Z1 ++ (Fd.grp s.length ++ s) := ⟨_, rfl⟩
  obtain ⟨Z3, e3⟩ : ∃ Z3, Z3 = Z2 ++ Fd.grp (Fd.zig b) := ⟨_, rfl⟩
  have l1 : Z1.length = (Fd.grp (Fd.zig a)).length := by rw [e1]; rfl
  have l2 : Z2.length = Z1.length + ((Fd.grp s.length).length + s.length) := by rw [e2, List.length_append, List.length_append]
  have l3 : Z3.length = Z2.length + (Fd.grp (Fd.zig b)).length := by rw [e3, List.length_append]
  have d0 : Z3.drop 0 = Fd.grp (Fd.zig a) ++ ((Fd.grp s.length ++ s) ++ Fd.grp (Fd.zig b)) := by rw [e3, e2, e1]; simp
  have d1 : Z3.drop Z1.length = (Fd.grp s.length ++ s) ++ Fd.grp (Fd.zig b) := by rw [e3, e2, List.append_assoc, List.drop_left]
  have d2 : Z3.drop Z2.length = Fd.grp (Fd.zig b) ++ [] := by rw [e3, List.drop_left, List.append_nil]
  have z1 : (1 : Int) ≤ (Z1.length : Int) := by omega
  have z2 : (Z1.length : Int) ≤ 10 := by omega
  have hzl : Z3.length ≤ 1000000 := by omega
  have HR1 : Hid (∀ g a3 c3 W, Rdr W g a3 c3 Z3 0 → Calls Try.prog 34 #[.pointer (some ⟨g, 0, none⟩)] W (OuterR W g a3 c3 Z3 (.int .i64 a) 0 Z1.length)) := Lib.hid (fun g a3 c3 W h => by
    have := back_int g a3 c3 Z3 0 a hain _ d0 hzl W h
    rwa [Nat.zero_add, ← l1] at this)
  have HR2 : Hid (∀ g a3 c3 W, Rdr W g a3 c3 Z3 Z1.length → Calls Try.prog 35 #[.pointer (some ⟨g, 0, none⟩), .int .i64 100] W (OuterR W g a3 c3 Z3 (.string ⟨s.toArray⟩) 0 Z2.length)) := Lib.hid (fun g a3 c3 W h => by
    have := back_text g a3 c3 Z3 Z1.length 100 s (by omega) (by omega) _ d1 (by omega) hzl W h
    rwa [List.length_append, ← l2] at this)
  have HR3 : Hid (∀ g a3 c3 W, Rdr W g a3 c3 Z3 Z2.length → Calls Try.prog 34 #[.pointer (some ⟨g, 0, none⟩)] W (OuterR W g a3 c3 Z3 (.int .i64 b) 0 Z3.length)) := Lib.hid (fun g a3 c3 W h => by
    have := back_int g a3 c3 Z3 Z2.length b hbin _ d2 hzl W h
    rwa [← l3] at this)
  have HZ1 : Hid (∀ BX BY W, W3 w W w.heap.size BX (w.heap.size + 1) BY (w.heap.size + 2) [] → Calls Try.prog 27 #[.pointer (some ⟨w.heap.size + 2, 0, none⟩), .int .i64 a] W fun e w' => e = .returned (.int .i64 0) ∧ W3 w w' w.heap.size BX (w.heap.size + 1) BY (w.heap.size + 2) Z1) := Lib.hid (fun BX BY W h => (e1 ▸ w3Int w _ [] _ BY _ BX a hain (by decide) W h.turn).mono fun _ _ h => ⟨h.1, h.2.turn⟩)
  have HZ2 : Hid (∀ BX BY W, W3 w W w.heap.size BX (w.heap.size + 1) BY (w.heap.size + 2) Z1 → Calls Try.prog 29 #[.pointer (some ⟨w.heap.size + 2, 0, none⟩), .string ⟨s.toArray⟩] W fun e w' => e = .returned (.int .i64 0) ∧ W3 w w' w.heap.size BX (w.heap.size + 1) BY (w.heap.size + 2) Z2) := Lib.hid (fun BX BY W h => (e2 ▸ w3Text w _ Z1 _ BY _ BX s (by omega) (by omega) W h.turn).mono fun _ _ h => ⟨h.1, h.2.turn⟩)
  have HZ3 : Hid (∀ BX BY W, W3 w W w.heap.size BX (w.heap.size + 1) BY (w.heap.size + 2) Z2 → Calls Try.prog 27 #[.pointer (some ⟨w.heap.size + 2, 0, none⟩), .int .i64 b] W fun e w' => e = .returned (.int .i64 0) ∧ W3 w w' w.heap.size BX (w.heap.size + 1) BY (w.heap.size + 2) Z3) := Lib.hid (fun BX BY W h => (e3 ▸ w3Int w _ Z2 _ BY _ BX b hbin (by omega) W h.turn).mono fun _ _ h => ⟨h.1, h.2.turn⟩)
  have HW0 := Lib.hid (W3.start (Below.refl w.heap.size w) 51)
  have hz1 : Z1.length ≤ 10000000 := by omega
  have hz3 : Z3.length ≤ 10000000 := by omega
  have HMO := Lib.hid Fd.grp_mono
  clear e1 e2 e3 l1 l2 l3 d0 d1 d2 h10a h10b h10s hpa hain hbin ha hb
  by_cases hna : a < 0
  · have HX : Hid (∀ W, W3 w W w.heap.size [] (w.heap.size + 1) [] (w.heap.size + 2) [] → Calls Try.prog 24 #[.pointer (some ⟨w.heap.size, 0, none⟩), .int .i64 a] W fun e w' => e = .returned (.int .i64 10) ∧ W3 w w' w.heap.size [] (w.heap.size + 1) [] (w.heap.size + 2) []) := Lib.hid (fun W h => (wUint_neg w.heap.size a hna W).mono fun _ _ h2 => ⟨h2.1, h2.2 ▸ h⟩)
    obtain ⟨BX, hBX⟩ : ∃ BX : List UInt8, BX = [] := ⟨_, rfl⟩
    clear hBX
    by_cases hnb : b < 0
    · have HY : Hid (∀ W, W3 w W w.heap.size [] (w.heap.size + 1) [] (w.heap.size + 2) [] → Calls Try.prog 24 #[.pointer (some ⟨w.heap.size + 1, 0, none⟩), .int .i64 b] W fun e w' => e = .returned (.int .i64 10) ∧ W3 w w' w.heap.size [] (w.heap.size + 1) [] (w.heap.size + 2) []) := Lib.hid (fun W h => (wUint_neg (w.heap.size + 1) b hnb W).mono fun _ _ h2 => ⟨h2.1, h2.2 ▸ h⟩)
      have tok1 : True := trivial
      have tok2 : True := trivial
      go_enter Try.func12, Try.ntmps12
      go_upto_region 20 with (first
        | ((with_reducible refine (HX.out _ HW0.out).mono ?_); rintro e w1 ⟨rfl, h⟩; have H1 := Lib.hid h; clear h)
        | ((with_reducible refine (HY.out _ H1.out).mono ?_); rintro e w2 ⟨rfl, h⟩; have H2 := Lib.hid h; clear h)
        | ((with_reducible refine (HZ1.out _ _ _ H2.out).mono ?_); rintro e w3 ⟨rfl, h⟩; have H3 := Lib.hid h; clear h)
        | (have _t := tok1; go_at_call 30; refine (nBytes w _ Z1 hz1 _ H3.out.turn.new).mono ?_; rintro e w4 ⟨a4, c4, rfl, hr, hb⟩; have H4 := Lib.hid (H3.out.later hb); clear hr hb tok1)
        | ((with_reducible refine (HZ2.out _ _ _ H4.out).mono ?_); rintro e w5 ⟨rfl, h⟩; have H5 := Lib.hid h; clear h)
        | ((with_reducible refine (HZ3.out _ _ _ H5.out).mono ?_); rintro e w6 ⟨rfl, h⟩; have H6 := Lib.hid h; clear h)
        | (have _t := tok2; go_at_call 30; refine (nBytes w _ Z3 hz3 _ H6.out.turn.new).mono ?_; rintro e w7 ⟨a7, c7, rfl, hr, hb⟩; have H7 := Lib.hid (And.intro (H6.out.later hb) hr); clear hr hb tok2)
        | (go_at_call 31; refine (read_any _ _ Z3 hzl _ H7.out.2).mono ?_; rintro e w8 ⟨g, a8, c8, rfl, hr, hb, hg⟩; have H8 := Lib.hid (And.intro hr (And.intro hb hg)); clear hr hb hg)
        | ((with_reducible refine (HR1.out _ _ _ _ H8.out.1).mono ?_); rintro e w9 ⟨rfl, hr, hf⟩; have H9 := Lib.hid (And.intro hr (H8.out.2.1.trans (hf.below H8.out.2.1.size (fun b o e => e.1 ▸ H8.out.2.2)))); clear hr hf)
        | ((with_reducible refine (HR2.out _ _ _ _ H9.out.1).mono ?_); rintro e w10 ⟨rfl, hr, hf⟩; have H10 := Lib.hid (And.intro hr (H9.out.2.trans (hf.below H9.out.2.size (fun b o e => e.1 ▸ H8.out.2.2)))); clear hr hf)
        | ((with_reducible refine (HR3.out _ _ _ _ H10.out.1).mono ?_); rintro e w11 ⟨rfl, hr, hf⟩; have H11 := Lib.hid (And.intro hr (H10.out.2.trans (hf.below H10.out.2.size (fun b o e => e.1 ▸ H8.out.2.2)))); clear hr hf)
        | (go_at_call 36; refine (left_any g a8 c8 Z3 _ _ H11.out.1 hzl).mono ?_; rintro e w12 ⟨rfl, nl, rfl⟩; have H12 := Lib.hid (H7.out.1.later (H11.out.2.trans ((drewN_below w11 nl).mono H11.out.2.size)))))
      go_wp2_with (go_at_call 23; refine (awake02 _).mono ?_; rintro e w20 ⟨rfl, hb⟩; have H20 := Lib.hid (H12.out.low.trans (hb.mono H12.out.low.size)); clear hb)
      go_ret
      exact ⟨by first | rfl | (simp; done) | (simp; omega), H20.out⟩
    · obtain ⟨n, rfl⟩ : ∃ n : Nat, b = (n : Int) := ⟨b.toNat, by omega⟩
      obtain ⟨BY, hBY⟩ : ∃ BY, BY = [] ++ Fd.grp n := ⟨_, rfl⟩
      have HY : Hid (∀ W, W3 w W w.heap.size [] (w.heap.size + 1) [] (w.heap.size + 2) [] → Calls Try.prog 24 #[.pointer (some ⟨w.heap.size + 1, 0, none⟩), .int .i64 (n : Int)] W fun e w' => e = .returned (.int .i64 0) ∧ W3 w w' w.heap.size [] (w.heap.size + 1) BY (w.heap.size + 2) []) := Lib.hid (fun W h => (hBY ▸ w3Uint w _ [] _ [] _ [] n (by omega) (by decide) W h.swap).mono fun _ _ h => ⟨h.1, h.2.swap⟩)
      have y9 := Fd.grp_nine (n := n) (by omega)
      have y1 := Fd.grp_pos n
      have yl : BY.length = (Fd.grp n).length := by rw [hBY]; rfl
      clear hBY y9 y1 yl hnb
      have tok1 : True := trivial
      have tok2 : True := trivial
      go_enter Try.func12, Try.ntmps12
      go_upto_region 20 with (first
        | ((with_reducible refine (HX.out _ HW0.out).mono ?_); rintro e w1 ⟨rfl, h⟩; have H1 := Lib.hid h; clear h)
        | ((with_reducible refine (HY.out _ H1.out).mono ?_); rintro e w2 ⟨rfl, h⟩; have H2 := Lib.hid h; clear h)
        | ((with_reducible refine (HZ1.out _ _ _ H2.out).mono ?_); rintro e w3 ⟨rfl, h⟩; have H3 := Lib.hid h; clear h)
        | (have _t := tok1; go_at_call 30; refine (nBytes w _ Z1 hz1 _ H3.out.turn.new).mono ?_; rintro e w4 ⟨a4, c4, rfl, hr, hb⟩; have H4 := Lib.hid (H3.out.later hb); clear hr hb tok1)
        | ((with_reducible refine (HZ2.out _ _ _ H4.out).mono ?_); rintro e w5 ⟨rfl, h⟩; have H5 := Lib.hid h; clear h)
        | ((with_reducible refine (HZ3.out _ _ _ H5.out).mono ?_); rintro e w6 ⟨rfl, h⟩; have H6 := Lib.hid h; clear h)
        | (have _t := tok2; go_at_call 30; refine (nBytes w _ Z3 hz3 _ H6.out.turn.new).mono ?_; rintro e w7 ⟨a7, c7, rfl, hr, hb⟩; have H7 := Lib.hid (And.intro (H6.out.later hb) hr); clear hr hb tok2)
        | (go_at_call 31; refine (read_any _ _ Z3 hzl _ H7.out.2).mono ?_; rintro e w8 ⟨g, a8, c8, rfl, hr, hb, hg⟩; have H8 := Lib.hid (And.intro hr (And.intro hb hg)); clear hr hb hg)
        | ((with_reducible refine (HR1.out _ _ _ _ H8.out.1).mono ?_); rintro e w9 ⟨rfl, hr, hf⟩; have H9 := Lib.hid (And.intro hr (H8.out.2.1.trans (hf.below H8.out.2.1.size (fun b o e => e.1 ▸ H8.out.2.2)))); clear hr hf)
        | ((with_reducible refine (HR2.out _ _ _ _ H9.out.1).mono ?_); rintro e w10 ⟨rfl, hr, hf⟩; have H10 := Lib.hid (And.intro hr (H9.out.2.trans (hf.below H9.out.2.size (fun b o e => e.1 ▸ H8.out.2.2)))); clear hr hf)
        | ((with_reducible refine (HR3.out _ _ _ _ H10.out.1).mono ?_); rintro e w11 ⟨rfl, hr, hf⟩; have H11 := Lib.hid (And.intro hr (H10.out.2.trans (hf.below H10.out.2.size (fun b o e => e.1 ▸ H8.out.2.2)))); clear hr hf)
        | (go_at_call 36; refine (left_any g a8 c8 Z3 _ _ H11.out.1 hzl).mono ?_; rintro e w12 ⟨rfl, nl, rfl⟩; have H12 := Lib.hid (H7.out.1.later (H11.out.2.trans ((drewN_below w11 nl).mono H11.out.2.size)))))
      go_wp2_with (go_at_call 23; refine (awake02 _).mono ?_; rintro e w20 ⟨rfl, hb⟩; have H20 := Lib.hid (H12.out.low.trans (hb.mono H12.out.low.size)); clear hb)
      go_ret
      exact ⟨by first | rfl | (simp; done) | (simp; omega), H20.out⟩
  · obtain ⟨m, rfl⟩ : ∃ m : Nat, a = (m : Int) := ⟨a.toNat, by omega⟩
    obtain ⟨BX, hBX⟩ : ∃ BX, BX = [] ++ Fd.grp m := ⟨_, rfl⟩
    have HX : Hid (∀ W, W3 w W w.heap.size [] (w.heap.size + 1) [] (w.heap.size + 2) [] → Calls Try.prog 24 #[.pointer (some ⟨w.heap.size, 0, none⟩), .int .i64 (m : Int)] W fun e w' => e = .returned (.int .i64 0) ∧ W3 w w' w.heap.size BX (w.heap.size + 1) [] (w.heap.size + 2) []) := Lib.hid (fun W h => hBX ▸ w3Uint w _ [] _ [] _ [] m (by omega) (by decide) W h)
    have x9 := Fd.grp_nine (n := m) (by omega)
    have x1 := Fd.grp_pos m
    have xl : BX.length = (Fd.grp m).length := by rw [hBX]; rfl
    by_cases hnb : b < 0
    · have HY : Hid (∀ W, W3 w W w.heap.size BX (w.heap.size + 1) [] (w.heap.size + 2) [] → Calls Try.prog 24 #[.pointer (some ⟨w.heap.size + 1, 0, none⟩), .int .i64 b] W fun e w' => e = .returned (.int .i64 10) ∧ W3 w w' w.heap.size BX (w.heap.size + 1) [] (w.heap.size + 2) []) := Lib.hid (fun W h => (wUint_neg (w.heap.size + 1) b hnb W).mono fun _ _ h2 => ⟨h2.1, h2.2 ▸ h⟩)
      clear hBX x9 x1 xl hna
      have tok1 : True := trivial
      have tok2 : True := trivial
      go_enter Try.func12, Try.ntmps12
      go_upto_region 20 with (first
        | ((with_reducible refine (HX.out _ HW0.out).mono ?_); rintro e w1 ⟨rfl, h⟩; have H1 := Lib.hid h; clear h)
        | ((with_reducible refine (HY.out _ H1.out).mono ?_); rintro e w2 ⟨rfl, h⟩; have H2 := Lib.hid h; clear h)
        | ((with_reducible refine (HZ1.out _ _ _ H2.out).mono ?_); rintro e w3 ⟨rfl, h⟩; have H3 := Lib.hid h; clear h)
        | (have _t := tok1; go_at_call 30; refine (nBytes w _ Z1 hz1 _ H3.out.turn.new).mono ?_; rintro e w4 ⟨a4, c4, rfl, hr, hb⟩; have H4 := Lib.hid (H3.out.later hb); clear hr hb tok1)
        | ((with_reducible refine (HZ2.out _ _ _ H4.out).mono ?_); rintro e w5 ⟨rfl, h⟩; have H5 := Lib.hid h; clear h)
        | ((with_reducible refine (HZ3.out _ _ _ H5.out).mono ?_); rintro e w6 ⟨rfl, h⟩; have H6 := Lib.hid h; clear h)
        | (have _t := tok2; go_at_call 30; refine (nBytes w _ Z3 hz3 _ H6.out.turn.new).mono ?_; rintro e w7 ⟨a7, c7, rfl, hr, hb⟩; have H7 := Lib.hid (And.intro (H6.out.later hb) hr); clear hr hb tok2)
        | (go_at_call 31; refine (read_any _ _ Z3 hzl _ H7.out.2).mono ?_; rintro e w8 ⟨g, a8, c8, rfl, hr, hb, hg⟩; have H8 := Lib.hid (And.intro hr (And.intro hb hg)); clear hr hb hg)
        | ((with_reducible refine (HR1.out _ _ _ _ H8.out.1).mono ?_); rintro e w9 ⟨rfl, hr, hf⟩; have H9 := Lib.hid (And.intro hr (H8.out.2.1.trans (hf.below H8.out.2.1.size (fun b o e => e.1 ▸ H8.out.2.2)))); clear hr hf)
        | ((with_reducible refine (HR2.out _ _ _ _ H9.out.1).mono ?_); rintro e w10 ⟨rfl, hr, hf⟩; have H10 := Lib.hid (And.intro hr (H9.out.2.trans (hf.below H9.out.2.size (fun b o e => e.1 ▸ H8.out.2.2)))); clear hr hf)
        | ((with_reducible refine (HR3.out _ _ _ _ H10.out.1).mono ?_); rintro e w11 ⟨rfl, hr, hf⟩; have H11 := Lib.hid (And.intro hr (H10.out.2.trans (hf.below H10.out.2.size (fun b o e => e.1 ▸ H8.out.2.2)))); clear hr hf)
        | (go_at_call 36; refine (left_any g a8 c8 Z3 _ _ H11.out.1 hzl).mono ?_; rintro e w12 ⟨rfl, nl, rfl⟩; have H12 := Lib.hid (H7.out.1.later (H11.out.2.trans ((drewN_below w11 nl).mono H11.out.2.size)))))
      go_wp2_with (go_at_call 23; refine (awake02 _).mono ?_; rintro e w20 ⟨rfl, hb⟩; have H20 := Lib.hid (H12.out.low.trans (hb.mono H12.out.low.size)); clear hb)
      go_ret
      exact ⟨by first | rfl | (simp; done) | (simp; omega), H20.out⟩
    · obtain ⟨n, rfl⟩ : ∃ n : Nat, b = (n : Int) := ⟨b.toNat, by omega⟩
      obtain ⟨BY, hBY⟩ : ∃ BY, BY = [] ++ Fd.grp n := ⟨_, rfl⟩
      have HY : Hid (∀ W, W3 w W w.heap.size BX (w.heap.size + 1) [] (w.heap.size + 2) [] → Calls Try.prog 24 #[.pointer (some ⟨w.heap.size + 1, 0, none⟩), .int .i64 (n : Int)] W fun e w' => e = .returned (.int .i64 0) ∧ W3 w w' w.heap.size BX (w.heap.size + 1) BY (w.heap.size + 2) []) := Lib.hid (fun W h => (hBY ▸ w3Uint w _ [] _ BX _ [] n (by omega) (by decide) W h.swap).mono fun _ _ h => ⟨h.1, h.2.swap⟩)
      have y9 := Fd.grp_nine (n := n) (by omega)
      have y1 := Fd.grp_pos n
      have yl : BY.length = (Fd.grp n).length := by rw [hBY]; rfl
      have hbx : BX.length ≤ 10000000 := by omega
      have hby : BY.length ≤ 10000000 := by omega
      have p1 : (1 : Int) ≤ (BX.length : Int) := by omega
      have p2 : (1 : Int) ≤ (BY.length : Int) := by omega
      have p3 : (BX.length : Int) ≤ 9 := by omega
      have p4 : (BY.length : Int) ≤ 9 := by omega
      have tok3 : True := trivial
      have tok4 : True := trivial
      have hmo1 : m ≤ n → BX.length ≤ BY.length := fun h => by rw [xl, yl]; exact HMO.out _ n m (Nat.lt_succ_self n) h
      have hmo2 : n ≤ m → BY.length ≤ BX.length := fun h => by rw [xl, yl]; exact HMO.out _ m n (Nat.lt_succ_self m) h
      rcases Nat.lt_trichotomy m n with hmn | hmn | hmn
      · have q1 : BX.length ≤ BY.length := hmo1 (by omega)
        have q2 : m < n := hmn
        have q3 : ¬ (n : Int) < (m : Int) := by omega
        have q4 : (m : Int) < (n : Int) := by omega
        clear hmo1 hmo2 hmn hBX hBY x9 x1 xl y9 y1 yl hna hnb
        have tok1 : True := trivial
        have tok2 : True := trivial
        go_enter Try.func12, Try.ntmps12
        go_upto_region 20 with (first
          | ((with_reducible refine (HX.out _ HW0.out).mono ?_); rintro e w1 ⟨rfl, h⟩; have H1 := Lib.hid h; clear h)
          | ((with_reducible refine (HY.out _ H1.out).mono ?_); rintro e w2 ⟨rfl, h⟩; have H2 := Lib.hid h; clear h)
          | ((with_reducible refine (HZ1.out _ _ _ H2.out).mono ?_); rintro e w3 ⟨rfl, h⟩; have H3 := Lib.hid h; clear h)
          | (have _t := tok1; go_at_call 30; refine (nBytes w _ Z1 hz1 _ H3.out.turn.new).mono ?_; rintro e w4 ⟨a4, c4, rfl, hr, hb⟩; have H4 := Lib.hid (H3.out.later hb); clear hr hb tok1)
          | ((with_reducible refine (HZ2.out _ _ _ H4.out).mono ?_); rintro e w5 ⟨rfl, h⟩; have H5 := Lib.hid h; clear h)
          | ((with_reducible refine (HZ3.out _ _ _ H5.out).mono ?_); rintro e w6 ⟨rfl, h⟩; have H6 := Lib.hid h; clear h)
          | (have _t := tok2; go_at_call 30; refine (nBytes w _ Z3 hz3 _ H6.out.turn.new).mono ?_; rintro e w7 ⟨a7, c7, rfl, hr, hb⟩; have H7 := Lib.hid (And.intro (H6.out.later hb) hr); clear hr hb tok2)
          | (go_at_call 31; refine (read_any _ _ Z3 hzl _ H7.out.2).mono ?_; rintro e w8 ⟨g, a8, c8, rfl, hr, hb, hg⟩; have H8 := Lib.hid (And.intro hr (And.intro hb hg)); clear hr hb hg)
          | ((with_reducible refine (HR1.out _ _ _ _ H8.out.1).mono ?_); rintro e w9 ⟨rfl, hr, hf⟩; have H9 := Lib.hid (And.intro hr (H8.out.2.1.trans (hf.below H8.out.2.1.size (fun b o e => e.1 ▸ H8.out.2.2)))); clear hr hf)
          | ((with_reducible refine (HR2.out _ _ _ _ H9.out.1).mono ?_); rintro e w10 ⟨rfl, hr, hf⟩; have H10 := Lib.hid (And.intro hr (H9.out.2.trans (hf.below H9.out.2.size (fun b o e => e.1 ▸ H8.out.2.2)))); clear hr hf)
          | ((with_reducible refine (HR3.out _ _ _ _ H10.out.1).mono ?_); rintro e w11 ⟨rfl, hr, hf⟩; have H11 := Lib.hid (And.intro hr (H10.out.2.trans (hf.below H10.out.2.size (fun b o e => e.1 ▸ H8.out.2.2)))); clear hr hf)
          | (go_at_call 36; refine (left_any g a8 c8 Z3 _ _ H11.out.1 hzl).mono ?_; rintro e w12 ⟨rfl, nl, rfl⟩; have H12 := Lib.hid (H7.out.1.later (H11.out.2.trans ((drewN_below w11 nl).mono H11.out.2.size)))))
        go_wp2_with (first
          | (have _t := tok3; go_at_call 30; refine (nBytes w _ BX hbx _ H12.out.new).mono ?_; rintro e w13 ⟨a13, c13, rfl, hr, hb⟩; have H13 := Lib.hid (H12.out.later hb); clear hr hb tok3)
          | (have _t := tok4; go_at_call 30; refine (nBytes w _ BY hby _ H13.out.swap.new).mono ?_; rintro e w14 ⟨a14, c14, rfl, hr, hb⟩; have H14 := Lib.hid (H13.out.later hb); clear hr hb tok4)
          | (go_at_call 23; refine (awake02 _).mono ?_; rintro e w20 ⟨rfl, hb⟩; have H20 := Lib.hid (H14.out.low.trans (hb.mono H14.out.low.size)); clear hb))
        go_ret
        exact ⟨by first | rfl | (simp; done) | (simp; omega), H20.out⟩
      · have q1 : BX.length ≤ BY.length := hmo1 (by omega)
        have q2 : BY.length ≤ BX.length := hmo2 (by omega)
        have q3 : ¬ (n : Int) < (m : Int) := by omega
        have q4 : ¬ (m : Int) < (n : Int) := by omega
        clear hmo1 hmo2 hmn hBX hBY x9 x1 xl y9 y1 yl hna hnb
        have tok1 : True := trivial
        have tok2 : True := trivial
        go_enter Try.func12, Try.ntmps12
        go_upto_region 20 with (first
          | ((with_reducible refine (HX.out _ HW0.out).mono ?_); rintro e w1 ⟨rfl, h⟩; have H1 := Lib.hid h; clear h)
          | ((with_reducible refine (HY.out _ H1.out).mono ?_); rintro e w2 ⟨rfl, h⟩; have H2 := Lib.hid h; clear h)
          | ((with_reducible refine (HZ1.out _ _ _ H2.out).mono ?_); rintro e w3 ⟨rfl, h⟩; have H3 := Lib.hid h; clear h)
          | (have _t := tok1; go_at_call 30; refine (nBytes w _ Z1 hz1 _ H3.out.turn.new).mono ?_; rintro e w4 ⟨a4, c4, rfl, hr, hb⟩; have H4 := Lib.hid (H3.out.later hb); clear hr hb tok1)
          | ((with_reducible refine (HZ2.out _ _ _ H4.out).mono ?_); rintro e w5 ⟨rfl, h⟩; have H5 := Lib.hid h; clear h)
          | ((with_reducible refine (HZ3.out _ _ _ H5.out).mono ?_); rintro e w6 ⟨rfl, h⟩; have H6 := Lib.hid h; clear h)
          | (have _t := tok2; go_at_call 30; refine (nBytes w _ Z3 hz3 _ H6.out.turn.new).mono ?_; rintro e w7 ⟨a7, c7, rfl, hr, hb⟩; have H7 := Lib.hid (And.intro (H6.out.later hb) hr); clear hr hb tok2)
          | (go_at_call 31; refine (read_any _ _ Z3 hzl _ H7.out.2).mono ?_; rintro e w8 ⟨g, a8, c8, rfl, hr, hb, hg⟩; have H8 := Lib.hid (And.intro hr (And.intro hb hg)); clear hr hb hg)
          | ((with_reducible refine (HR1.out _ _ _ _ H8.out.1).mono ?_); rintro e w9 ⟨rfl, hr, hf⟩; have H9 := Lib.hid (And.intro hr (H8.out.2.1.trans (hf.below H8.out.2.1.size (fun b o e => e.1 ▸ H8.out.2.2)))); clear hr hf)
          | ((with_reducible refine (HR2.out _ _ _ _ H9.out.1).mono ?_); rintro e w10 ⟨rfl, hr, hf⟩; have H10 := Lib.hid (And.intro hr (H9.out.2.trans (hf.below H9.out.2.size (fun b o e => e.1 ▸ H8.out.2.2)))); clear hr hf)
          | ((with_reducible refine (HR3.out _ _ _ _ H10.out.1).mono ?_); rintro e w11 ⟨rfl, hr, hf⟩; have H11 := Lib.hid (And.intro hr (H10.out.2.trans (hf.below H10.out.2.size (fun b o e => e.1 ▸ H8.out.2.2)))); clear hr hf)
          | (go_at_call 36; refine (left_any g a8 c8 Z3 _ _ H11.out.1 hzl).mono ?_; rintro e w12 ⟨rfl, nl, rfl⟩; have H12 := Lib.hid (H7.out.1.later (H11.out.2.trans ((drewN_below w11 nl).mono H11.out.2.size)))))
        go_wp2_with (first
          | (have _t := tok3; go_at_call 30; refine (nBytes w _ BX hbx _ H12.out.new).mono ?_; rintro e w13 ⟨a13, c13, rfl, hr, hb⟩; have H13 := Lib.hid (H12.out.later hb); clear hr hb tok3)
          | (have _t := tok4; go_at_call 30; refine (nBytes w _ BY hby _ H13.out.swap.new).mono ?_; rintro e w14 ⟨a14, c14, rfl, hr, hb⟩; have H14 := Lib.hid (H13.out.later hb); clear hr hb tok4)
          | (go_at_call 23; refine (awake02 _).mono ?_; rintro e w20 ⟨rfl, hb⟩; have H20 := Lib.hid (H14.out.low.trans (hb.mono H14.out.low.size)); clear hb))
        go_ret
        exact ⟨by first | rfl | (simp; done) | (simp; omega), H20.out⟩
      · have q1 : BY.length ≤ BX.length := hmo2 (by omega)
        have q3 : (n : Int) < (m : Int) := by omega
        have q4 : ¬ (m : Int) < (n : Int) := by omega
        clear hmo1 hmo2 hmn hBX hBY x9 x1 xl y9 y1 yl hna hnb
        have tok1 : True := trivial
        have tok2 : True := trivial
        go_enter Try.func12, Try.ntmps12
        go_upto_region 20 with (first
          | ((with_reducible refine (HX.out _ HW0.out).mono ?_); rintro e w1 ⟨rfl, h⟩; have H1 := Lib.hid h; clear h)
          | ((with_reducible refine (HY.out _ H1.out).mono ?_); rintro e w2 ⟨rfl, h⟩; have H2 := Lib.hid h; clear h)
          | ((with_reducible refine (HZ1.out _ _ _ H2.out).mono ?_); rintro e w3 ⟨rfl, h⟩; have H3 := Lib.hid h; clear h)
          | (have _t := tok1; go_at_call 30; refine (nBytes w _ Z1 hz1 _ H3.out.turn.new).mono ?_; rintro e w4 ⟨a4, c4, rfl, hr, hb⟩; have H4 := Lib.hid (H3.out.later hb); clear hr hb tok1)
          | ((with_reducible refine (HZ2.out _ _ _ H4.out).mono ?_); rintro e w5 ⟨rfl, h⟩; have H5 := Lib.hid h; clear h)
          | ((with_reducible refine (HZ3.out _ _ _ H5.out).mono ?_); rintro e w6 ⟨rfl, h⟩; have H6 := Lib.hid h; clear h)
          | (have _t := tok2; go_at_call 30; refine (nBytes w _ Z3 hz3 _ H6.out.turn.new).mono ?_; rintro e w7 ⟨a7, c7, rfl, hr, hb⟩; have H7 := Lib.hid (And.intro (H6.out.later hb) hr); clear hr hb tok2)
          | (go_at_call 31; refine (read_any _ _ Z3 hzl _ H7.out.2).mono ?_; rintro e w8 ⟨g, a8, c8, rfl, hr, hb, hg⟩; have H8 := Lib.hid (And.intro hr (And.intro hb hg)); clear hr hb hg)
          | ((with_reducible refine (HR1.out _ _ _ _ H8.out.1).mono ?_); rintro e w9 ⟨rfl, hr, hf⟩; have H9 := Lib.hid (And.intro hr (H8.out.2.1.trans (hf.below H8.out.2.1.size (fun b o e => e.1 ▸ H8.out.2.2)))); clear hr hf)
          | ((with_reducible refine (HR2.out _ _ _ _ H9.out.1).mono ?_); rintro e w10 ⟨rfl, hr, hf⟩; have H10 := Lib.hid (And.intro hr (H9.out.2.trans (hf.below H9.out.2.size (fun b o e => e.1 ▸ H8.out.2.2)))); clear hr hf)
          | ((with_reducible refine (HR3.out _ _ _ _ H10.out.1).mono ?_); rintro e w11 ⟨rfl, hr, hf⟩; have H11 := Lib.hid (And.intro hr (H10.out.2.trans (hf.below H10.out.2.size (fun b o e => e.1 ▸ H8.out.2.2)))); clear hr hf)
          | (go_at_call 36; refine (left_any g a8 c8 Z3 _ _ H11.out.1 hzl).mono ?_; rintro e w12 ⟨rfl, nl, rfl⟩; have H12 := Lib.hid (H7.out.1.later (H11.out.2.trans ((drewN_below w11 nl).mono H11.out.2.size)))))
        go_wp2_with (first
          | (have _t := tok3; go_at_call 30; refine (nBytes w _ BX hbx _ H12.out.new).mono ?_; rintro e w13 ⟨a13, c13, rfl, hr, hb⟩; have H13 := Lib.hid (H12.out.later hb); clear hr hb tok3)
          | (have _t := tok4; go_at_call 30; refine (nBytes w _ BY hby _ H13.out.swap.new).mono ?_; rintro e w14 ⟨a14, c14, rfl, hr, hb⟩; have H14 := Lib.hid (H13.out.later hb); clear hr hb tok4)
          | (go_at_call 23; refine (awake02 _).mono ?_; rintro e w20 ⟨rfl, hb⟩; have H20 := Lib.hid (H14.out.low.trans (hb.mono H14.out.low.size)); clear hb))
        go_ret
        exact ⟨by first | rfl | (simp; done) | (simp; omega), H20.out⟩
end Go.Proofs.Ytapjdcofnigjhaa
