/- Package rows: Changes. -/
import Derived.Test.YtapjdcofnigjhaaRows2
import Derived.Test.YtapjdcofnigjhaaRowsEq
import Derived.Deep.QuietTactic
import Derived.BigQuiet
namespace Go.Proofs.Ytapjdcofnigjhaa
open Go.RowKit

theorem changes_bad (k : List UInt8) (h : okKey k = false) (v1 v2 : Value) (w : World) :
    Calls Try.prog 19 #[.string ⟨k.toArray⟩, v1, v2] w fun e w' => e = .returned (.tuple #[.slice none 0 0, .int .i64 13]) ∧ w = w' := by
  have hc : chk k = 13 := by unfold chk; rw [h]; rfl
  have HC := Lib.hid (check_any k)
  rw [hc] at HC
  clear hc h
  go_enter Try.func19, Try.ntmps19
  go_wp2_with (go_at_call 39; refine (HC.out _).mono ?_; rintro e w' ⟨rfl, rfl⟩)
  go_ret2
  exact ⟨rfl, rfl⟩
theorem chgAt_no {i : Nat} {f g : Option (Nat → Int)} (h : keepB i f g = false) : chgAt i f g = chgCol i f g := by unfold chgAt; rw [h]; rfl
theorem chgAt_yes {i : Nat} {f g : Option (Nat → Int)} (h : keepB i f g = true) : chgAt i f g = [] := by unfold chgAt; rw [if_pos h]
theorem chgs_same {f g : Nat → Int} (h : ∀ i, i < 4 → f i = g i) : chgs 4 (some f) (some g) = [] := by
  unfold chgs
  rw [List.flatMap_eq_nil_iff]
  intro i hi
  exact chgAt_yes (by unfold keepB; simp [h i (List.mem_range.1 hi)])
/-- What Changes hands back. -/
def GivesC (w : World) (k : List UInt8) (f g : Option (Nat → Int)) (e : Ending) (w' : World) : Prop := ∃ a c, e = .returned (.tuple #[.slice a (chgs 4 f g).length c, .int .i64 0]) ∧ Loc 4 w w' a (chgs 4 f g).length c (chgV k (chgs 4 f g))

set_option maxHeartbeats 2000000 in
theorem changes_nn (k : List UInt8) (h : okKey k = true) (w : World) :
    Calls Try.prog 19 #[.string ⟨k.toArray⟩, .pointer none, .pointer none] w (GivesC w k (none) (none)) := by
  have hc : chk k = 0 := by unfold chk; rw [h]; rfl
  have HC := Lib.hid (check_any k)
  rw [hc] at HC
  have HK := Lib.hid (fun (i : Nat) hi w1 hp hq => column_any i hi k (none) (none) (none) (none) w1 hp hq)
  have HP : Hid (PtrAt w (none) (none) ∧ PtrAt w (none) (none)) := Lib.hid ⟨trivial, trivial⟩
  have HA := Lib.hid (fun a n c xs a2 m c2 news hn w1 => and_any w a n c xs a2 m c2 news hn w1)
  clear hc h
  go_enter Try.func19, Try.ntmps19
  go_wp2_with (go_at_call 39; refine (HC.out _).mono ?_; rintro e w' ⟨rfl, rfl⟩)
  go_quiet (fail)
  go_wp2
  go_loopw [10, 33] (fun s i wr => ∃ (n : Nat) (a : Option Addr) (c : Nat), n ≤ 4 ∧ i = .int .i64 n ∧ s = .slice a (chgs n (none) (none)).length c ∧
    Hid (Loc 4 w wr a (chgs n (none) (none)).length c (chgV k (chgs n (none) (none))))) (fun _ i _ => 4 - (intOf i).toNat)
  case atStart => exact ⟨0, none, 0, by omega, rfl, rfl, Lib.hid (Loc.start 4 w _ ⟨rfl, rfl, rfl, Nat.le_refl _, fun _ _ => rfl⟩)⟩
  case round =>
    obtain ⟨n, a, c, hn, rfl, rfl, HL⟩ := hrel
    by_cases hlt : n < 4
    · have hi4 : (n : Int) < 4 := by omega
      have hi0 : (0 : Int) ≤ (n : Int) := by omega
      have hl1 := chgs_len n (none) (none)
      have hl2 := chgCol_len n (none) (none)
      have hkeep : keepB n (none) (none) = false := by unfold keepB; rfl
      have HS : Hid (chgs (n + 1) (none) (none) = chgs n (none) (none) ++ chgCol n (none) (none)) := Lib.hid (by rw [chgs_succ, chgAt_no hkeep])
      clear hkeep
      go_wp2
      go_quiet (fail)
      have HD := Lib.hid (HL.out.later (w' := wr.drewN nq) ⟨rfl, rfl, rfl, Nat.le_refl _, fun _ _ => rfl⟩)
      go_wp2_with (first
        | (go_at_call 41; refine (HK.out n hlt _ (HP.out.1.later HD.out.low) (HP.out.2.later HD.out.low)).mono ?_; rintro e w1 ⟨a1, d1, rfl, h1⟩; have H1 := Lib.hid (And.intro (HD.out.later (h1.low)) h1.rd); clear h1)
        | (go_at_call 40; refine (HA.out a _ c _ a1 _ d1 _ (by omega) _ H1.out.1 H1.out.2).mono ?_; rintro e w2 ⟨a2, d2, rfl, h2⟩; have H2 := Lib.hid h2; clear h2))
      go_roundw
      case rel =>
        have h2 := H2.out
        rw [← chgV_append, ← List.length_append, ← HS.out] at h2
        exact ⟨n + 1, a2, d2, by omega, by go_num, by rw [HS.out, List.length_append], Lib.hid h2⟩
      case measure => simp [intOf]; omega
    · obtain rfl : n = 4 := by omega
      go_wp2
      go_ret2
      exact ⟨a, c, rfl, HL.out⟩

set_option maxHeartbeats 2000000 in
theorem changes_sn (k : List UInt8) (h : okKey k = true) (b1 o1 : Nat) (f : Nat → Int) (w : World) (hp : PtrAt w (some (b1, o1)) (some f)) :
    Calls Try.prog 19 #[.string ⟨k.toArray⟩, .pointer (some ⟨b1, o1, none⟩), .pointer none] w (GivesC w k (some f) (none)) := by
  have hc : chk k = 0 := by unfold chk; rw [h]; rfl
  have HC := Lib.hid (check_any k)
  rw [hc] at HC
  have HK := Lib.hid (fun (i : Nat) hi w1 hp hq => column_any i hi k (some (b1, o1)) (none) (some f) (none) w1 hp hq)
  have HP : Hid (PtrAt w (some (b1, o1)) (some f) ∧ PtrAt w (none) (none)) := Lib.hid ⟨hp, trivial⟩
  have HA := Lib.hid (fun a n c xs a2 m c2 news hn w1 => and_any w a n c xs a2 m c2 news hn w1)
  clear hc h hp
  go_enter Try.func19, Try.ntmps19
  go_wp2_with (go_at_call 39; refine (HC.out _).mono ?_; rintro e w' ⟨rfl, rfl⟩)
  go_quiet (fail)
  go_wp2
  go_loopw [10, 33] (fun s i wr => ∃ (n : Nat) (a : Option Addr) (c : Nat), n ≤ 4 ∧ i = .int .i64 n ∧ s = .slice a (chgs n (some f) (none)).length c ∧
    Hid (Loc 4 w wr a (chgs n (some f) (none)).length c (chgV k (chgs n (some f) (none))))) (fun _ i _ => 4 - (intOf i).toNat)
  case atStart => exact ⟨0, none, 0, by omega, rfl, rfl, Lib.hid (Loc.start 4 w _ ⟨rfl, rfl, rfl, Nat.le_refl _, fun _ _ => rfl⟩)⟩
  case round =>
    obtain ⟨n, a, c, hn, rfl, rfl, HL⟩ := hrel
    by_cases hlt : n < 4
    · have hi4 : (n : Int) < 4 := by omega
      have hi0 : (0 : Int) ≤ (n : Int) := by omega
      have hl1 := chgs_len n (some f) (none)
      have hl2 := chgCol_len n (some f) (none)
      have hkeep : keepB n (some f) (none) = false := by unfold keepB; rfl
      have HS : Hid (chgs (n + 1) (some f) (none) = chgs n (some f) (none) ++ chgCol n (some f) (none)) := Lib.hid (by rw [chgs_succ, chgAt_no hkeep])
      clear hkeep
      go_wp2
      go_quiet (fail)
      have HD := Lib.hid (HL.out.later (w' := wr.drewN nq) ⟨rfl, rfl, rfl, Nat.le_refl _, fun _ _ => rfl⟩)
      go_wp2_with (first
        | (go_at_call 41; refine (HK.out n hlt _ (HP.out.1.later HD.out.low) (HP.out.2.later HD.out.low)).mono ?_; rintro e w1 ⟨a1, d1, rfl, h1⟩; have H1 := Lib.hid (And.intro (HD.out.later (h1.low)) h1.rd); clear h1)
        | (go_at_call 40; refine (HA.out a _ c _ a1 _ d1 _ (by omega) _ H1.out.1 H1.out.2).mono ?_; rintro e w2 ⟨a2, d2, rfl, h2⟩; have H2 := Lib.hid h2; clear h2))
      go_roundw
      case rel =>
        have h2 := H2.out
        rw [← chgV_append, ← List.length_append, ← HS.out] at h2
        exact ⟨n + 1, a2, d2, by omega, by go_num, by rw [HS.out, List.length_append], Lib.hid h2⟩
      case measure => simp [intOf]; omega
    · obtain rfl : n = 4 := by omega
      go_wp2
      go_ret2
      exact ⟨a, c, rfl, HL.out⟩

set_option maxHeartbeats 2000000 in
theorem changes_ns (k : List UInt8) (h : okKey k = true) (b2 o2 : Nat) (g : Nat → Int) (w : World) (hq : PtrAt w (some (b2, o2)) (some g)) :
    Calls Try.prog 19 #[.string ⟨k.toArray⟩, .pointer none, .pointer (some ⟨b2, o2, none⟩)] w (GivesC w k (none) (some g)) := by
  have hc : chk k = 0 := by unfold chk; rw [h]; rfl
  have HC := Lib.hid (check_any k)
  rw [hc] at HC
  have HK := Lib.hid (fun (i : Nat) hi w1 hp hq => column_any i hi k (none) (some (b2, o2)) (none) (some g) w1 hp hq)
  have HP : Hid (PtrAt w (none) (none) ∧ PtrAt w (some (b2, o2)) (some g)) := Lib.hid ⟨trivial, hq⟩
  have HA := Lib.hid (fun a n c xs a2 m c2 news hn w1 => and_any w a n c xs a2 m c2 news hn w1)
  clear hc h hq
  go_enter Try.func19, Try.ntmps19
  go_wp2_with (go_at_call 39; refine (HC.out _).mono ?_; rintro e w' ⟨rfl, rfl⟩)
  go_quiet (fail)
  go_wp2
  go_loopw [10, 33] (fun s i wr => ∃ (n : Nat) (a : Option Addr) (c : Nat), n ≤ 4 ∧ i = .int .i64 n ∧ s = .slice a (chgs n (none) (some g)).length c ∧
    Hid (Loc 4 w wr a (chgs n (none) (some g)).length c (chgV k (chgs n (none) (some g))))) (fun _ i _ => 4 - (intOf i).toNat)
  case atStart => exact ⟨0, none, 0, by omega, rfl, rfl, Lib.hid (Loc.start 4 w _ ⟨rfl, rfl, rfl, Nat.le_refl _, fun _ _ => rfl⟩)⟩
  case round =>
    obtain ⟨n, a, c, hn, rfl, rfl, HL⟩ := hrel
    by_cases hlt : n < 4
    · have hi4 : (n : Int) < 4 := by omega
      have hi0 : (0 : Int) ≤ (n : Int) := by omega
      have hl1 := chgs_len n (none) (some g)
      have hl2 := chgCol_len n (none) (some g)
      have hkeep : keepB n (none) (some g) = false := by unfold keepB; rfl
      have HS : Hid (chgs (n + 1) (none) (some g) = chgs n (none) (some g) ++ chgCol n (none) (some g)) := Lib.hid (by rw [chgs_succ, chgAt_no hkeep])
      clear hkeep
      go_wp2
      go_quiet (fail)
      have HD := Lib.hid (HL.out.later (w' := wr.drewN nq) ⟨rfl, rfl, rfl, Nat.le_refl _, fun _ _ => rfl⟩)
      go_wp2_with (first
        | (go_at_call 41; refine (HK.out n hlt _ (HP.out.1.later HD.out.low) (HP.out.2.later HD.out.low)).mono ?_; rintro e w1 ⟨a1, d1, rfl, h1⟩; have H1 := Lib.hid (And.intro (HD.out.later (h1.low)) h1.rd); clear h1)
        | (go_at_call 40; refine (HA.out a _ c _ a1 _ d1 _ (by omega) _ H1.out.1 H1.out.2).mono ?_; rintro e w2 ⟨a2, d2, rfl, h2⟩; have H2 := Lib.hid h2; clear h2))
      go_roundw
      case rel =>
        have h2 := H2.out
        rw [← chgV_append, ← List.length_append, ← HS.out] at h2
        exact ⟨n + 1, a2, d2, by omega, by go_num, by rw [HS.out, List.length_append], Lib.hid h2⟩
      case measure => simp [intOf]; omega
    · obtain rfl : n = 4 := by omega
      go_wp2
      go_ret2
      exact ⟨a, c, rfl, HL.out⟩

set_option maxHeartbeats 2000000 in
theorem changes_ss (k : List UInt8) (h : okKey k = true) (b1 o1 b2 o2 : Nat) (f g : Nat → Int) (w : World) (hp : PtrAt w (some (b1, o1)) (some f)) (hq : PtrAt w (some (b2, o2)) (some g)) :
    Calls Try.prog 19 #[.string ⟨k.toArray⟩, .pointer (some ⟨b1, o1, none⟩), .pointer (some ⟨b2, o2, none⟩)] w (GivesC w k (some f) (some g)) := by
  have hc : chk k = 0 := by unfold chk; rw [h]; rfl
  have HC := Lib.hid (check_any k)
  rw [hc] at HC
  have HK := Lib.hid (fun (i : Nat) hi w1 hp hq => column_any i hi k (some (b1, o1)) (some (b2, o2)) (some f) (some g) w1 hp hq)
  have HP : Hid (PtrAt w (some (b1, o1)) (some f) ∧ PtrAt w (some (b2, o2)) (some g)) := Lib.hid ⟨hp, hq⟩
  have HA := Lib.hid (fun a n c xs a2 m c2 news hn w1 => and_any w a n c xs a2 m c2 news hn w1)
  clear hc h
  have c0 := hp 0 (by omega)
  have c1 := hp 1 (by omega)
  have c2 := hp 2 (by omega)
  have c3 := hp 3 (by omega)
  have d0 := hq 0 (by omega)
  have d1 := hq 1 (by omega)
  have d2 := hq 2 (by omega)
  have d3 := hq 3 (by omega)
  rw [Nat.add_zero] at c0 d0
  have hgr := guardRow
  have HQ := Lib.hid (And.intro hp hq)
  clear hp hq
  by_cases hall : f 0 = g 0 ∧ f 1 = g 1 ∧ f 2 = g 2 ∧ f 3 = g 3
  · have heq := eqlRow (f 0) (f 1) (f 2) (f 3) (g 0) (g 1) (g 2) (g 3) true (by simp [hall])
    have hnil : chgs 4 (some f) (some g) = [] := chgs_same (by
      intro i hi
      match i, hi with
      | 0, _ => exact hall.1
      | 1, _ => exact hall.2.1
      | 2, _ => exact hall.2.2.1
      | 3, _ => exact hall.2.2.2)
    have HN := Lib.hid hnil
    clear hnil hall
    go_enter Try.func19, Try.ntmps19
    go_wp2_with (go_at_call 39; refine (HC.out _).mono ?_; rintro e w' ⟨rfl, rfl⟩)
    go_quiet (fail)
    go_wp2
    go_ret2
    unfold GivesC
    rw [HN.out]
    exact ⟨none, 0, rfl, Loc.start 4 w _ ⟨rfl, rfl, rfl, Nat.le_refl _, fun _ _ => rfl⟩⟩
  · have heq := eqlRow (f 0) (f 1) (f 2) (f 3) (g 0) (g 1) (g 2) (g 3) false (by
      rw [Bool.eq_false_iff]; intro h; apply hall; simpa using h)
    clear hall
    go_enter Try.func19, Try.ntmps19
    go_wp2_with (go_at_call 39; refine (HC.out _).mono ?_; rintro e w' ⟨rfl, rfl⟩)
    go_quiet (fail)
    go_wp2
    clear c0 c1 c2 c3 d0 d1 d2 d3 heq
    go_loopw [10, 33] (fun s i wr => ∃ (n : Nat) (a : Option Addr) (c : Nat), n ≤ 4 ∧ i = .int .i64 n ∧ s = .slice a (chgs n (some f) (some g)).length c ∧
      Hid (Loc 4 w wr a (chgs n (some f) (some g)).length c (chgV k (chgs n (some f) (some g))))) (fun _ i _ => 4 - (intOf i).toNat)
    case atStart => exact ⟨0, none, 0, by omega, rfl, rfl, Lib.hid (Loc.start 4 w _ ⟨rfl, rfl, rfl, Nat.le_refl _, fun _ _ => rfl⟩)⟩
    case round =>
      obtain ⟨n, a, c, hn, rfl, rfl, HL⟩ := hrel
      by_cases hlt : n < 4
      · have hi4 : (n : Int) < 4 := by omega
        have hi0 : (0 : Int) ≤ (n : Int) := by omega
        have hl1 := chgs_len n (some f) (some g)
        have hl2 := chgCol_len n (some f) (some g)
        have x1 := old_cell (HQ.out.1 n hlt) HL.out.low
        have x2 := old_cell (HQ.out.2 n hlt) HL.out.low
        by_cases hfg : f n = g n
        · have HS : Hid (chgs (n + 1) (some f) (some g) = chgs n (some f) (some g)) := Lib.hid (by rw [chgs_succ, chgAt_yes (by unfold keepB; simp [hfg]), List.append_nil])
          have hb : (f n == g n) = true := by simp [hfg]
          clear hfg
          go_wp2
          go_quiet (fail)
          go_wp2
          go_roundw
          case rel => exact ⟨n + 1, a, c, by omega, by go_num, by rw [HS.out], Lib.hid (by rw [HS.out]; exact HL.out.later ⟨rfl, rfl, rfl, Nat.le_refl _, fun _ _ => rfl⟩)⟩
          case measure => simp [intOf]; omega
        · have hb : (f n == g n) = false := by simp [hfg]
          have hkeep : keepB n (some f) (some g) = false := by unfold keepB; exact hb
          have HS : Hid (chgs (n + 1) (some f) (some g) = chgs n (some f) (some g) ++ chgCol n (some f) (some g)) := Lib.hid (by rw [chgs_succ, chgAt_no hkeep])
          clear hkeep hfg
          go_wp2
          go_quiet (fail)
          have HD := Lib.hid (HL.out.later (w' := wr.drewN nq) ⟨rfl, rfl, rfl, Nat.le_refl _, fun _ _ => rfl⟩)
          go_wp2_with (first
            | (go_at_call 41; refine (HK.out n hlt _ (HP.out.1.later HD.out.low) (HP.out.2.later HD.out.low)).mono ?_; rintro e w1 ⟨a1, d1, rfl, h1⟩; have H1 := Lib.hid (And.intro (HD.out.later (h1.low)) h1.rd); clear h1)
            | (go_at_call 40; refine (HA.out a _ c _ a1 _ d1 _ (by omega) _ H1.out.1 H1.out.2).mono ?_; rintro e w2 ⟨a2, d2, rfl, h2⟩; have H2 := Lib.hid h2; clear h2))
          go_roundw
          case rel =>
            have h2 := H2.out
            rw [← chgV_append, ← List.length_append, ← HS.out] at h2
            exact ⟨n + 1, a2, d2, by omega, by go_num, by rw [HS.out, List.length_append], Lib.hid h2⟩
          case measure => simp [intOf]; omega
      · obtain rfl : n = 4 := by omega
        go_wp2
        go_ret2
        exact ⟨a, c, rfl, HL.out⟩

theorem changes_good (k : List UInt8) (h : okKey k = true) (p q : Option (Nat × Nat)) (f g : Option (Nat → Int)) (w : World) (hp : PtrAt w p f) (hq : PtrAt w q g) :
    Calls Try.prog 19 #[.string ⟨k.toArray⟩, ptrV p, ptrV q] w (GivesC w k f g) := by
  match p, f, hp with
  | none, none, _ =>
    match q, g, hq with
    | none, none, _ => exact changes_nn k h w
    | some (b2, o2), some g, hq => exact changes_ns k h b2 o2 g w hq
  | some (b1, o1), some f, hp =>
    match q, g, hq with
    | none, none, _ => exact changes_sn k h b1 o1 f w hp
    | some (b2, o2), some g, hq => exact changes_ss k h b1 o1 b2 o2 f g w hp hq
end Go.Proofs.Ytapjdcofnigjhaa
