/- Package proc: formed, ranged. -/
import Derived.Test.YtgoegdlhbadlfaaDoorPr2
import Derived.Test.YtgoegdlhbadlfaaDoorPcShelf
import Derived.Lib.LaidTab
import Derived.Lib.OthersKept
import Derived.Lib.Hide
namespace Go.Proofs.YtgoegdlhbadlfaaDoor
namespace Pc
open Go.RowKit
def strV (l : Str) : Value := .string ⟨l.toArray⟩
/-- What the package-level variables hold. -/
structure Laid (w : World) : Prop where
  word : ∀ n, n < 16 → w.cell? ⟨0, n * 2, none⟩ = some (strV (wordN n))
  has : ∀ n, n < 16 → w.cell? ⟨0, n * 2 + 1, none⟩ = some (strV (hasS n))
  pow : Lib.TabIs Tryd.prog w "internal/strconv.uint64pow10" .u64 Lib.pow10Tab
  err : ∃ tp p, w.var? Tryd.prog "strconv.ErrSyntax" = some #[.iface tp p]
  most : ∃ m, w.cell? ⟨2, 0, none⟩ = some (.int .i64 m)
  size : 9 ≤ w.heap.size
theorem gPow : Tryd.prog.globalNamed "internal/strconv.uint64pow10" = some 1 := by kernel_rfl
theorem gErr : Tryd.prog.globalNamed "strconv.ErrSyntax" = some 3 := by kernel_rfl
theorem var_below {w W : World} {B : Nat} (hb : Below B w W) {s : String} {g : Nat} (hg : Tryd.prog.globalNamed s = some g) (h : g < B) : W.var? Tryd.prog s = w.var? Tryd.prog s := by
  unfold World.var?
  rw [hg]
  simp only [Option.bind_some]
  rw [hb.block g h]
theorem Laid.later {w W : World} (h : Laid w) {B : Nat} (hb : Below B w W) (hB : 9 ≤ B) : Laid W := by
  obtain ⟨h1, h2, h3, ⟨tp, p, h4⟩, ⟨m, h5⟩, h6⟩ := h
  refine ⟨fun n hn => ?_, fun n hn => ?_, ?_, ⟨tp, p, ?_⟩, ⟨m, ?_⟩, Nat.le_trans h6 hb.size⟩
  · rw [hb.cell (Nat.lt_of_lt_of_le (show 0 < 9 by decide) hB)]; exact h1 n hn
  · rw [hb.cell (Nat.lt_of_lt_of_le (show 0 < 9 by decide) hB)]; exact h2 n hn
  · unfold Lib.TabIs
    rw [var_below hb gPow (Nat.lt_of_lt_of_le (by decide) hB)]; exact h3
  · rw [var_below hb gErr (Nat.lt_of_lt_of_le (by decide) hB)]; exact h4
  · rw [hb.cell (Nat.lt_of_lt_of_le (by decide) hB)]; exact h5
theorem letter_lt (f : Nat) : (letter f).toNat < 128 := by
  unfold letter; split <;> decide
/-- The names of all fields. -/
def allS : Str := [65, 66, 67, 78]
theorem allS_get {i : Nat} (hi : i < 4) : allS[i]? = some (letter i) := by
  have : i = 0 ∨ i = 1 ∨ i = 2 ∨ i = 3 := by omega
  rcases this with rfl | rfl | rfl | rfl <;> rfl
/-- The cells of an op in block P. -/
def OpAt (w : World) (P : Nat) (x : OpP) : Prop := ∀ i u, i < 5 → (opV x)[i]? = some u → w.cell? ⟨P, i, none⟩ = some u
theorem fld_get (x : OpP) {f : Nat} (hf : f < 4) : (opV x)[f + 1]? = some (.int .i64 (fld x f)) := by
  have : f = 0 ∨ f = 1 ∨ f = 2 ∨ f = 3 := by omega
  rcases this with rfl | rfl | rfl | rfl <;> rfl
theorem OpAt.fld {w : World} {P : Nat} {x : OpP} (h : OpAt w P x) {f : Nat} (hf : f < 4) : w.cell? ⟨P, f + 1, none⟩ = some (.int .i64 (fld x f)) := h _ _ (by omega) (fld_get x hf)
theorem OpAt.below {w W : World} {P B : Nat} {x : OpP} (h : OpAt w P x) (hb : Below B w W) (hP : P < B) : OpAt W P x := fun i u hi hu => (hb.cell (p := ⟨P, i, none⟩) hP).trans (h i u hi hu)
theorem OpAt.box (w : World) (x : OpP) (t : TypeId) : OpAt (w.alloc (.cells (opV x).toArray t)) w.heap.size x := by
  intro i u hi hu
  simp
  simpa using hu
theorem indexByte_contains : ∀ (l : Str) (u : UInt8), decide (0 ≤ Lib.indexByte l u) = l.contains u
  | [], u => by simp [Lib.indexByte]
  | b :: l, u => by
    have ih := indexByte_contains l u
    have hg := Lib.indexByte_ge l u
    rw [List.contains_cons, ← ih, Lib.indexByte]
    by_cases h : b = u
    · subst h; simp
    · have h1 : (b == u) = false := by simpa using h
      have h2 : (u == b) = false := by simpa using fun e => h e.symm
      rw [h1, h2]
      by_cases h3 : Lib.indexByte l u = -1
      · simp [h3]
      · have h4 : (Lib.indexByte l u == -1) = false := by simpa using h3
        simp only [h4, Bool.false_eq_true, if_false, Bool.false_or]
        exact decide_eq_decide.2 (by omega)
theorem contains_any (m i : Nat) (hi : i < 4) (w : World) : Calls Tryd.prog 31 #[.string ⟨(hasS m).toArray⟩, .int .i32 (letter i).toNat] w fun e V => e = .returned (.bool ((hasN m).contains i)) ∧ w = V := by
  refine (Sh.strings_ContainsRune_ascii ⟨(hasS m).toArray⟩ (letter i).toNat w (by omega) (by have := letter_lt i; omega)).mono ?_
  rintro e V ⟨rfl, rfl⟩
  refine ⟨?_, rfl⟩
  rw [show (⟨(hasS m).toArray⟩ : ByteArray).data.toList = hasS m from by simp, indexByte_contains, Int.toNat_natCast, show (letter i).toNat.toUInt8 = letter i from by simp [Nat.toUInt8], hasS_contains hi]
theorem next_at (w : World) (k : Nat) (l : Str) (i : Nat) (u : UInt8) (ty : TypeId) (hk : w.heap[k]? = some (.stringIter ⟨l.toArray⟩ i)) (h : l[i]? = some u) (hu : u.toNat < 128) :
    (Instr.next (.pointer (some ⟨k, 0, none⟩)) true ty).run Tryd.prog w = .ok (.tuple #[.bool true, .int .i64 i, .int .i32 u.toNat]) (w.iterAt k ⟨l.toArray⟩ (i + 1)) := by
  obtain ⟨hlt, he⟩ := List.getElem?_eq_some_iff.1 h
  have hp : i < (⟨l.toArray⟩ : ByteArray).size := by show i < l.toArray.size; simpa using hlt
  have hx : (⟨l.toArray⟩ : ByteArray)[i]'hp = u := by rw [← he]; rfl
  have := Lib.run_next_ascii_at (P := Tryd.prog) w k ⟨l.toArray⟩ i ty hk hp (by rw [hx]; exact hu)
  rw [hx] at this
  exact this
theorem next_end (w : World) (k : Nat) (l : Str) (i : Nat) (ty : TypeId) (hk : w.heap[k]? = some (.stringIter ⟨l.toArray⟩ i)) (h : l.length ≤ i) :
    (Instr.next (.pointer (some ⟨k, 0, none⟩)) true ty).run Tryd.prog w = .ok (.tuple #[.bool false]) w :=
  Lib.run_next_end_at w k ⟨l.toArray⟩ i ty hk (by show ¬ i < l.toArray.size; simpa using h)
theorem formed_any (x : OpP) (w : World) (hL : Laid w) : Calls Tryd.prog 19 #[.agg (opV x).toArray] w fun e V => e = .returned (.bool (formedP x)) ∧ Below w.heap.size w V := by
  by_cases hd : isDo x
  case neg =>
    have hf : formedP x = false := by simp [formedP, hd]
    rw [hf]
    obtain ⟨d, a, b, c, n⟩ := x
    show Calls _ _ #[.agg #[.int .i64 d, .int .i64 a, .int .i64 b, .int .i64 c, .int .i64 n]] w _
    unfold isDo at hd
    by_cases h1 : d < 1
    · clear hd hf
      go_enter Tryd.func19, Tryd.ntmps19
      go_wp2
      go_ret
      exact ⟨rfl, (Below.refl _ _).alloc (Nat.le_refl _) _⟩
    · have h2 : (15 : Int) < d := by simp only at hd; omega
      clear hd hf
      go_enter Tryd.func19, Tryd.ntmps19
      go_wp2
      go_ret
      exact ⟨rfl, (Below.refl _ _).alloc (Nat.le_refl _) _⟩
  case pos =>
    have hb := OpAt.box w x 28
    have hfo : formedP x = (noX x 0 && (noX x 1 && (noX x 2 && noX x 3))) := by simp [formedP, hd]
    have HFO := Lib.hid hfo
    have HX := Lib.hid hb
    have hG := hL.size
    have HL := Lib.hid hL
    obtain ⟨d, a, b, c, n⟩ := x
    obtain ⟨hd1, hd2⟩ := hd
    simp only at hd1 hd2
    obtain ⟨m, rfl⟩ : ∃ m : Nat, d = m := ⟨d.toNat, by omega⟩
    have hm1 : ¬ ((m : Int) < 1) := by omega
    have hm2 : ¬ ((15 : Int) < m) := by omega
    have hm16 : m < 16 := by omega
    clear hb hL hd1 hd2 hfo
    show Calls _ _ #[.agg #[.int .i64 m, .int .i64 a, .int .i64 b, .int .i64 c, .int .i64 n]] w _
    go_enter Tryd.func19, Tryd.ntmps19
    go_wp2_with (go_at_call 12; refine (fields_any _ _).mono ?_; rintro _ w1 ⟨rfl, rfl⟩)
    go_loopw [] (fun wr => ∃ i, Hid (wr.heap[w.heap.size + 2]? = some (.stringIter ⟨allS.toArray⟩ i) ∧ i ≤ 4 ∧ Below w.heap.size w wr ∧ OpAt wr w.heap.size ((m : Int), a, b, c, n) ∧ wr.cell? ⟨w.heap.size + 1, 0, none⟩ = some (.pointer (some ⟨w.heap.size, 0, none⟩)) ∧ (∀ j, j < i → noX ((m : Int), a, b, c, n) j = true))) (fun wr => 5 - wr.iterPos (w.heap.size + 2))
    case atStart =>
      refine ⟨0, Lib.hid ⟨?_, by omega, ?_, ?_, ?_, fun j hj => by omega⟩⟩
      · have e : ((w.alloc (.cells #[.int .i64 m, .int .i64 a, .int .i64 b, .int .i64 c, .int .i64 n] 28)).alloc (.cells #[.pointer (some ⟨w.heap.size, 0, none⟩)] 44)).heap.size = w.heap.size + 2 := by simp
        have := World.iter_heap ((w.alloc (.cells #[.int .i64 m, .int .i64 a, .int .i64 b, .int .i64 c, .int .i64 n] 28)).alloc (.cells #[.pointer (some ⟨w.heap.size, 0, none⟩)] 44)) ⟨allS.toArray⟩ 0
        rw [e] at this
        exact this
      · exact (((Below.refl _ w).alloc (Nat.le_refl _) _).alloc (by simp) _).alloc (by simp; omega) _
      · exact HX.out.below (B := w.heap.size + 1) (((Below.refl _ _).alloc (by simp) _).alloc (by simp) _) (by omega)
      · show (((w.alloc (.cells #[.int .i64 m, .int .i64 a, .int .i64 b, .int .i64 c, .int .i64 n] 28)).alloc (.cells #[.pointer (some ⟨w.heap.size, 0, none⟩)] 44)).alloc (.stringIter ⟨allS.toArray⟩ 0)).cell? ⟨w.heap.size + 1, 0, none⟩ = _
        exact ((Below.refl (w.heap.size + 2) _).alloc (by simp) _).cell (p := ⟨w.heap.size + 1, 0, none⟩) (by simp) |>.trans (by simp)
    case round =>
      obtain ⟨i, HR⟩ := hrel
      by_cases hi : i < 4
      · have hnx : ∀ ty, (Instr.next (.pointer (some ⟨w.heap.size + 2, 0, none⟩)) true ty).run Tryd.prog wr = _ := fun ty => next_at wr (w.heap.size + 2) allS i (letter i) ty HR.out.1 (allS_get hi) (letter_lt i)
        obtain ⟨w1, hw1⟩ : ∃ w1, w1 = wr.iterAt (w.heap.size + 2) ⟨allS.toArray⟩ (i + 1) := ⟨_, rfl⟩
        rw [← hw1] at hnx
        have hit := Lib.iterAt_heap wr (w.heap.size + 2) ⟨allS.toArray⟩ i (i + 1) HR.out.1
        have hb1 := Lib.below_iterAt (Below.refl (w.heap.size + 2) wr) (k := w.heap.size + 2) (Nat.le_refl _) ⟨allS.toArray⟩ (i + 1)
        rw [← hw1] at hit hb1
        have hop := HR.out.2.2.2.1.below hb1 (by omega)
        have h0 : w1.cell? ⟨w.heap.size, 0, none⟩ = some (.int .i64 m) := hop 0 _ (by omega) rfl
        have hf : w1.cell? ⟨w.heap.size, i + 1, none⟩ = some (.int .i64 (fld ((m : Int), a, b, c, n) i)) := hop.fld hi
        have hq : w1.cell? ⟨w.heap.size + 1, 0, none⟩ = some (.pointer (some ⟨w.heap.size, 0, none⟩)) := (hb1.cell (by simp)).trans HR.out.2.2.2.2.1
        have hsh : w1.cell? ⟨0, m * 2 + 1, none⟩ = some (.string ⟨(hasS m).toArray⟩) := ((HL.out.later HR.out.2.2.1 hG).later hb1 (by omega)).has m hm16
        have HI := Lib.hid (And.intro hit (And.intro hop hb1))
        clear hw1 hit hb1 hop
        by_cases hc : (hasN m).contains i = true
        · have HN : Hid (noX ((m : Int), a, b, c, n) i = true) := Lib.hid (by unfold noX; rw [show ((m : Int), a, b, c, n).1.toNat = m from Int.toNat_natCast m, hc]; rfl)
          have HC := Lib.hid hc
          clear hc
          go_wp2_with (go_at_call 31; refine (contains_any m i hi _).mono ?_; rintro _ w2 ⟨rfl, rfl⟩; rw [HC.out])
          go_roundw
          case rel =>
            refine ⟨i + 1, Lib.hid ⟨HI.out.1, by omega, HR.out.2.2.1.trans (HI.out.2.2.mono (by omega)), HI.out.2.1, hq, fun j hj => ?_⟩⟩
            by_cases e : j = i
            · subst e; exact HN.out
            · exact HR.out.2.2.2.2.2 j (by omega)
          case measure =>
            simp only [World.iterPos, HI.out.1, HR.out.1]
            omega
        · have hc' : (hasN m).contains i = false := by simpa using hc
          have HC := Lib.hid hc'
          clear hc hc'
          by_cases hz : fld ((m : Int), a, b, c, n) i = 0
          · rw [hz] at hf
            have HN : Hid (noX ((m : Int), a, b, c, n) i = true) := Lib.hid (by unfold noX; rw [show ((m : Int), a, b, c, n).1.toNat = m from Int.toNat_natCast m, HC.out, hz]; rfl)
            clear hz
            go_wp2_with (first | (go_at_call 31; refine (contains_any m i hi _).mono ?_; rintro _ w2 ⟨rfl, rfl⟩; rw [HC.out]) | (go_at_call 22; refine (fieldC_any i w.heap.size _ hi _ hq).mono ?_; rintro _ w2 ⟨rfl, rfl⟩))
            go_roundw
            case rel =>
              refine ⟨i + 1, Lib.hid ⟨HI.out.1, by omega, HR.out.2.2.1.trans (HI.out.2.2.mono (by omega)), HI.out.2.1, hq, fun j hj => ?_⟩⟩
              by_cases e : j = i
              · subst e; exact HN.out
              · exact HR.out.2.2.2.2.2 j (by omega)
            case measure =>
              simp only [World.iterPos, HI.out.1, HR.out.1]
              omega
          · have HN : Hid (noX ((m : Int), a, b, c, n) i = false) := Lib.hid (by unfold noX; rw [show ((m : Int), a, b, c, n).1.toNat = m from Int.toNat_natCast m, HC.out]; simpa using hz)
            go_wp2_with (first | (go_at_call 31; refine (contains_any m i hi _).mono ?_; rintro _ w2 ⟨rfl, rfl⟩; rw [HC.out]) | (go_at_call 22; refine (fieldC_any i w.heap.size _ hi _ hq).mono ?_; rintro _ w2 ⟨rfl, rfl⟩))
            go_ret
            refine ⟨?_, HR.out.2.2.1.trans (HI.out.2.2.mono (by omega))⟩
            have : formedP ((m : Int), a, b, c, n) = false := by
              rw [HFO.out]
              have hi' : i = 0 ∨ i = 1 ∨ i = 2 ∨ i = 3 := by omega
              rcases hi' with rfl | rfl | rfl | rfl <;> rw [HN.out] <;> simp
            rw [this]
            rfl
      · have hi4 : i = 4 := by have := HR.out.2.1; omega
        subst hi4
        have hnx : ∀ ty, (Instr.next (.pointer (some ⟨w.heap.size + 2, 0, none⟩)) true ty).run Tryd.prog wr = _ := fun ty => next_end wr (w.heap.size + 2) allS 4 ty HR.out.1 (by decide)
        go_wp2
        go_ret
        have hn := HR.out.2.2.2.2.2
        have : formedP ((m : Int), a, b, c, n) = true := by
          rw [HFO.out, hn 0 (by omega), hn 1 (by omega), hn 2 (by omega), hn 3 (by omega)]; rfl
        rw [this]
        exact ⟨rfl, HR.out.2.2.1⟩
theorem hasS_get {m i f : Nat} (h : (hasN m)[i]? = some f) : (hasS m)[i]? = some (letter f) := by
  unfold hasS; rw [List.getElem?_map, h]; rfl
theorem all_take_succ {α : Type} {l : List α} {i : Nat} {f : α} (h : l[i]? = some f) (p : α → Bool) : (l.take (i + 1)).all p = ((l.take i).all p && p f) := by
  rw [List.take_add_one, h]; simp
set_option maxHeartbeats 4000000 in
theorem ranged_any (x : OpP) (w : World) (hL : Laid w) (hd : isDo x) : Calls Tryd.prog 20 #[.agg (opV x).toArray] w fun e V => e = .returned (.bool (rangedP x)) ∧ Below w.heap.size w V := by
  have hb := OpAt.box w x 28
  have HX := Lib.hid hb
  have hG := hL.size
  have HL := Lib.hid hL
  obtain ⟨d, a, b, c, n⟩ := x
  obtain ⟨hd1, hd2⟩ := hd
  simp only at hd1 hd2
  obtain ⟨m, rfl⟩ : ∃ m : Nat, d = m := ⟨d.toNat, by omega⟩
  have hm16 : m < 16 := by omega
  have hro : rangedP ((m : Int), a, b, c, n) = (hasN m).all (inX ((m : Int), a, b, c, n)) := by unfold rangedP; rw [show ((m : Int), a, b, c, n).1.toNat = m from Int.toNat_natCast m]
  have HFO := Lib.hid hro
  have hlen := hasN_len m
  have HLT := Lib.hid (hasN_lt m)
  clear hb hL hd1 hd2 hro
  show Calls _ _ #[.agg #[.int .i64 m, .int .i64 a, .int .i64 b, .int .i64 c, .int .i64 n]] w _
  go_enter Tryd.func20, Tryd.ntmps20
  go_wp2_with (go_at_call 12; refine (fields_any _ _).mono ?_; rintro _ w1 ⟨rfl, hw1⟩; have hz1 : w1.heap.size = w.heap.size + 2 := (by rw [← hw1]; simp); have hbw : Below w.heap.size w w1 := (by rw [← hw1]; exact ((Below.refl _ w).alloc (Nat.le_refl _) _).alloc (by simp) _); have hop1 : OpAt w1 w.heap.size ((m : Int), a, b, c, n) := (by rw [← hw1]; exact HX.out.below (B := w.heap.size + 1) ((Below.refl _ _).alloc (by simp) _) (by omega)); have h01 : w1.cell? ⟨w.heap.size, 0, none⟩ = some (.int .i64 m) := hop1 0 _ (by omega) rfl; have hsh1 : w1.cell? ⟨0, m * 2 + 1, none⟩ = some (.string ⟨(hasS m).toArray⟩) := (HL.out.later hbw hG).has m hm16; have hq1 : w1.cell? ⟨w.heap.size + 1, 0, none⟩ = some (.pointer (some ⟨w.heap.size, 0, none⟩)) := (by rw [← hw1]; simp); have H1 := Lib.hid (And.intro hbw (And.intro hop1 hq1)); clear hw1 hbw hop1 hq1)
  go_loopw [] (fun wr => ∃ i, Hid (wr.heap[w.heap.size + 2]? = some (.stringIter ⟨(hasS m).toArray⟩ i) ∧ i ≤ (hasN m).length ∧ Below w.heap.size w wr ∧ OpAt wr w.heap.size ((m : Int), a, b, c, n) ∧ wr.cell? ⟨w.heap.size + 1, 0, none⟩ = some (.pointer (some ⟨w.heap.size, 0, none⟩)) ∧ ((hasN m).take i).all (inX ((m : Int), a, b, c, n)) = true)) (fun wr => 5 - wr.iterPos (w.heap.size + 2))
  case atStart =>
    refine ⟨0, Lib.hid ⟨?_, by omega, ?_, ?_, ?_, rfl⟩⟩
    · have := World.iter_heap w1 ⟨(hasS m).toArray⟩ 0
      rw [hz1] at this
      exact this
    · exact H1.out.1.alloc (by omega) _
    · exact H1.out.2.1.below (B := w.heap.size + 1) ((Below.refl _ _).alloc (by omega) _) (by omega)
    · exact (((Below.refl (w.heap.size + 2) w1).alloc (by omega) (.stringIter ⟨(hasS m).toArray⟩ 0)).cell (p := ⟨w.heap.size + 1, 0, none⟩) (by simp)).trans H1.out.2.2
  case round =>
    obtain ⟨i, HR⟩ := hrel
    have hil := HR.out.2.1
    by_cases hi : i < (hasN m).length
    · obtain ⟨f, hf⟩ : ∃ f, (hasN m)[i]? = some f := ⟨_, List.getElem?_eq_getElem hi⟩
      have hf4 : f < 4 := HLT.out f (List.mem_of_getElem? hf)
      have hnx : ∀ ty, (Instr.next (.pointer (some ⟨w.heap.size + 2, 0, none⟩)) true ty).run Tryd.prog wr = _ := fun ty => next_at wr (w.heap.size + 2) (hasS m) i (letter f) ty HR.out.1 (hasS_get hf) (letter_lt f)
      obtain ⟨w1, hw1⟩ : ∃ w1, w1 = wr.iterAt (w.heap.size + 2) ⟨(hasS m).toArray⟩ (i + 1) := ⟨_, rfl⟩
      rw [← hw1] at hnx
      have hit := Lib.iterAt_heap wr (w.heap.size + 2) ⟨(hasS m).toArray⟩ i (i + 1) HR.out.1
      have hb1 := Lib.below_iterAt (Below.refl (w.heap.size + 2) wr) (k := w.heap.size + 2) (Nat.le_refl _) ⟨(hasS m).toArray⟩ (i + 1)
      rw [← hw1] at hit hb1
      have hop := HR.out.2.2.2.1.below hb1 (by omega)
      have h0 : w1.cell? ⟨w.heap.size, 0, none⟩ = some (.int .i64 m) := hop 0 _ (by omega) rfl
      have hv : w1.cell? ⟨w.heap.size, f + 1, none⟩ = some (.int .i64 (fld ((m : Int), a, b, c, n) f)) := hop.fld hf4
      have hq : w1.cell? ⟨w.heap.size + 1, 0, none⟩ = some (.pointer (some ⟨w.heap.size, 0, none⟩)) := (hb1.cell (by simp)).trans HR.out.2.2.2.2.1
      have HI := Lib.hid (And.intro hit (And.intro hop hb1))
      have HF := Lib.hid hf
      clear hw1 hit hb1 hop hf
      by_cases hlo : fld ((m : Int), a, b, c, n) f < loP m f
      · have HN : Hid (inX ((m : Int), a, b, c, n) f = false) := Lib.hid (by unfold inX; exact decide_eq_false (by simp only; omega))
        go_wp2_with (first | (go_at_call 32; refine (span_any m f hf4 _).mono ?_; rintro _ w2 ⟨rfl, rfl⟩) | (go_at_call 22; refine (fieldC_any f w.heap.size _ hf4 _ hq).mono ?_; rintro _ w2 ⟨rfl, rfl⟩))
        go_ret
        refine ⟨?_, HR.out.2.2.1.trans (HI.out.2.2.mono (by omega))⟩
        have : rangedP ((m : Int), a, b, c, n) = false := by
          rw [HFO.out]
          exact List.all_eq_false.2 ⟨f, List.mem_of_getElem? HF.out, by rw [HN.out]; simp⟩
        rw [this]
        rfl
      · by_cases hhi : hiP m f < fld ((m : Int), a, b, c, n) f
        · have HN : Hid (inX ((m : Int), a, b, c, n) f = false) := Lib.hid (by unfold inX; exact decide_eq_false (by simp only; omega))
          go_wp2_with (first | (go_at_call 32; refine (span_any m f hf4 _).mono ?_; rintro _ w2 ⟨rfl, rfl⟩) | (go_at_call 22; refine (fieldC_any f w.heap.size _ hf4 _ hq).mono ?_; rintro _ w2 ⟨rfl, rfl⟩))
          go_ret
          refine ⟨?_, HR.out.2.2.1.trans (HI.out.2.2.mono (by omega))⟩
          have : rangedP ((m : Int), a, b, c, n) = false := by
            rw [HFO.out]
            exact List.all_eq_false.2 ⟨f, List.mem_of_getElem? HF.out, by rw [HN.out]; simp⟩
          rw [this]
          rfl
        · have HN : Hid (inX ((m : Int), a, b, c, n) f = true) := Lib.hid (by unfold inX; exact decide_eq_true (by simp only; omega))
          go_wp2_with (first | (go_at_call 32; refine (span_any m f hf4 _).mono ?_; rintro _ w2 ⟨rfl, rfl⟩) | (go_at_call 22; refine (fieldC_any f w.heap.size _ hf4 _ hq).mono ?_; rintro _ w2 ⟨rfl, rfl⟩))
          go_roundw
          case rel =>
            refine ⟨i + 1, Lib.hid ⟨HI.out.1, by omega, HR.out.2.2.1.trans (HI.out.2.2.mono (by omega)), HI.out.2.1, hq, ?_⟩⟩
            rw [all_take_succ HF.out, HR.out.2.2.2.2.2, HN.out]; rfl
          case measure =>
            simp only [World.iterPos, HI.out.1, HR.out.1]
            omega
    · have hi4 : i = (hasN m).length := by omega
      subst hi4
      have hnx : ∀ ty, (Instr.next (.pointer (some ⟨w.heap.size + 2, 0, none⟩)) true ty).run Tryd.prog wr = _ := fun ty => next_end wr (w.heap.size + 2) (hasS m) _ ty HR.out.1 (by unfold hasS; simp)
      go_wp2
      go_ret
      have hn := HR.out.2.2.2.2.2
      rw [List.take_length] at hn
      rw [HFO.out, hn]
      exact ⟨rfl, HR.out.2.2.1⟩
end Pc
end Go.Proofs.YtgoegdlhbadlfaaDoor
