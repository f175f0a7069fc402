/- Joined: Law6. -/
import Derived.Test.YtbempjkkohjnbaaYLawA
import Derived.Test.YtbempjkkohjnbaaYShape
/- The laws of package tree: a tree and a list are made, and calls done; TreeShapes. -/
namespace Go.Proofs.Ytbempjkkohjnbaa
open Go.RowKit Tr
open Ky (less)

/-- What calls leave. -/
def runL (l : List TOp) : List Pr := l.foldl (fun L x => stepL x.1 x.2.1 x.2.2 L) []
theorem stepL_len (ask : Int) (key v : Str) (L : List Pr) : (stepL ask key v L).length ≤ L.length + 1 := by
  unfold stepL
  split
  · unfold putL
    split
    · rw [ins_len]; split <;> omega
    · omega
  · split
    · unfold delL
      split
      · have := del_len key L; split at this <;> omega
      · omega
    · omega
theorem run_len (l : List TOp) : (runL l).length ≤ l.length := by
  have h : ∀ (l : List TOp) (L : List Pr), (l.foldl (fun L x => stepL x.1 x.2.1 x.2.2 L) L).length ≤ L.length + l.length := by
    intro l
    induction l with
    | nil => intro L; simp
    | cons x l ih =>
      intro L
      have := ih (stepL x.1 x.2.1 x.2.2 L)
      have := stepL_len x.1 x.2.1 x.2.2 L
      rw [List.foldl_cons, List.length_cons]; omega
  have := h l []
  simpa [runL] using this
theorem run_succ {l : List TOp} {j : Nat} {x : TOp} (h : l[j]? = some x) : runL (l.take (j + 1)) = stepL x.1 x.2.1 x.2.2 (runL (l.take j)) := by
  unfold runL
  rw [List.take_add_one, h, List.foldl_append]
  rfl
/-- A new tree, and a new list. -/
theorem two_start {w V : World} {b o : Nat} {g : G} {t : TypeId} (hT : TreeAt V b o 0 g) (hp : g.ps = []) (hb : Below w.heap.size w V) (hf : ∀ k x, treeF b 0 g k x → w.heap.size ≤ k) :
    TwoAt w.heap.size noCells (V.alloc (.cells #[.slice none 0 0] t)) b o V.heap.size [] [] ∧ Below w.heap.size w (V.alloc (.cells #[.slice none 0 0] t)) := by
  have h1 := al1 V (.cells #[.slice none 0 0] t)
  have hlies := hT.m.lies
  refine ⟨⟨0, g, noCells, none, 0, hT.later h1, hp, ⟨by simp, by simp, Sl.none_ _ 2, fun x h => h, fun _ _ h => h.elim⟩, fun k x h2 h3 => ?_, fun _ _ _ h => h, fun _ _ _ h => h, hf, fun k x h => ?_, fun _ _ h => h.elim, ?_⟩, hb.trans (h1.mono hb.size)⟩
  · rcases h3 with h3 | h3
    · have := hlies k x h2; omega
    · exact h3
  · rcases h with rfl | h
    · exact hb.size
    · exact h.elim
  · have := hb.size
    have := h1.size
    omega
/-- So many calls are done. -/
def Run (w wr : World) (b o r : Nat) (l : List TOp) (j : Nat) : Prop := TwoAt w.heap.size noCells wr b o r (runL (l.take j)) (runL (l.take j)) ∧ Below w.heap.size w wr
theorem Run.len {w wr : World} {b o r : Nat} {l : List TOp} {j : Nat} (_ : Run w wr b o r l j) : (runL (l.take j)).length ≤ l.length := by
  have := run_len (l.take j)
  rw [List.length_take] at this
  omega
theorem Run.start {w V : World} {b o : Nat} {g : G} {t : TypeId} {l : List TOp} (hT : TreeAt V b o 0 g) (hp : g.ps = []) (hb : Below w.heap.size w V) (hf : ∀ k x, treeF b 0 g k x → w.heap.size ≤ k) : Run w (V.alloc (.cells #[.slice none 0 0] t)) b o V.heap.size l 0 := two_start hT hp hb hf
theorem Run.later {w wr V : World} {b o r : Nat} {l : List TOp} {j : Nat} (h : Run w wr b o r l j) (hb : Below wr.heap.size wr V) : Run w V b o r l j := ⟨h.1.later hb, h.2.trans (hb.mono h.2.size)⟩
theorem Run.step {w wr V : World} {b o r : Nat} {l : List TOp} {j : Nat} {x : TOp} (h : Run w wr b o r l j) (hx : l[j]? = some x) (hd : DoesTo w.heap.size noCells wr b o r (stepL x.1 x.2.1 x.2.2 (runL (l.take j))) V) : Run w V b o r l (j + 1) := by
  unfold Run
  rw [run_succ hx]
  exact ⟨hd.1, h.2.trans hd.2.1⟩
theorem Run.does {w wr : World} {b o r : Nat} {l : List TOp} {j : Nat} {ask : Int} {key v : Str} (h : Run w wr b o r l j) (hx : l[j]? = some (ask, key, v)) (hl : l.length ≤ 200) :
    Calls Try.prog 30 #[ptrV b, ptrV r, .agg #[.int .i64 ask, .string ⟨key.toArray⟩, .string ⟨v.toArray⟩]] wr fun e V => e = .returned (.bool true) ∧ Hid (Run w V b o r l (j + 1)) :=
  (does_any ask key v h.1 (by have := h.len; omega)).mono fun e V ⟨he, hd⟩ => ⟨he, Lib.hid (h.step hx hd)⟩
/-- In the drawn region: a call of Shape, and the list's length, in any order. -/
theorem Run.held {w wr : World} {b o r : Nat} {l : List TOp} {j : Nat} {la : Option Addr} {n lc : Nat} (_h : Run w wr b o r l j) (hc : wr.cell? ⟨r, 0, none⟩ = some (.slice la n lc)) {V : World} (hb : Below wr.heap.size wr V) : V.cell? ⟨r, 0, none⟩ = some (.slice la n lc) := old_cell hc hb
/-- What the list has, in memory. -/
theorem Run.list {w wr : World} {b o r : Nat} {l : List TOp} {j : Nat} (h : Run w wr b o r l j) : ∃ a c, wr.cell? ⟨r, 0, none⟩ = some (.slice a (runL (l.take j)).length c) := by
  obtain ⟨⟨h, g, F, a, c, T⟩, _⟩ := h
  exact ⟨a, c, T.l.c0⟩
/-- The tree's shape, and that it is right. -/
theorem Run.shape {w wr : World} {b o r : Nat} {l : List TOp} {j : Nat} (h : Run w wr b o r l j) (hl : l.length ≤ 200) : ∃ n S, S = S ∧ n = (runL (l.take j)).length ∧ n ≤ 200 ∧ SOk o n S ∧ ∀ W, Below wr.heap.size wr W →
    Calls Try.prog 23 #[ptrV b] W fun e V => ∃ a c, e = .returned (.slice a S.length c) ∧ Shp W.heap.size V a c S ∧ Below W.heap.size W V := by
  have hle := h.len
  obtain ⟨⟨h, g, F, a, c, T⟩, _⟩ := h
  have hn : (flat h g).length ≤ 200 := by rw [T.e]; omega
  refine ⟨_, lv h [g], rfl, rfl, by omega, by have := T.t.good.sok (by omega); rw [T.e] at this; exact this, fun W hW => ?_⟩
  have := shape_any b o h 200 g hn (by omega) W (T.t.later hW)
  rw [lv_len]
  exact this
theorem Run.count {w wr : World} {b o r : Nat} {l : List TOp} {j : Nat} (h : Run w wr b o r l j) : wr.cell? ⟨b, 1, none⟩ = some (.int .i64 ((runL (l.take j)).length : Nat)) := by
  obtain ⟨⟨h, g, F, a, c, T⟩, _⟩ := h
  have := T.t.m.c1
  rw [T.e] at this
  exact this
def Yes (w : World) (e : Ending) (V : World) : Prop := e = .returned (.bool true) ∧ Below w.heap.size w V
set_option maxHeartbeats 4000000 in
set_option maxRecDepth 100000 in
theorem treeShapes_walk (order : Int) (a : Option Addr) (c : Nat) (l : List TOp) (w : World) (hr : Rd w 3 a l.length c (topsV l)) (hok : ∀ x ∈ l, OkTop x) :
    Calls Try.prog 5 #[.int .i64 order, .slice a l.length c] w (Yes w) := by
  have hcap := hr.cap
  have hle := hr.le
  unfold maxLen at hcap
  have HA := Lib.hid (fun W => awake4_any W)
  by_cases ho : order < 2 ∨ 16 < order
  · have HN := Lib.hid (newT_bad order ho w)
    clear hr hok ho
    go_enter Try.func5, Try.ntmps5
    go_wp2_with (first
      | (go_at_call 17; refine HN.out.mono ?_; rintro e V ⟨rfl, rfl⟩)
      | (go_at_call 18; refine (HA.out _).mono ?_; rintro e V ⟨rfl, hb⟩; have HB := Lib.hid hb; clear hb))
    go_ret
    exact ⟨rfl, HB.out⟩
  obtain ⟨o, rfl⟩ : ∃ o : Nat, order = o := ⟨order.toNat, by omega⟩
  have HN := Lib.hid (newT_any o (by omega) (by omega) w)
  have HF := Lib.hid (fun W (h : Below w.heap.size w W) => few_any a c l (by omega) hok W (hr.later h))
  by_cases hf : fewL l
  case neg =>
    have hff : decide (fewL l) = false := by simpa using hf
    rw [hff] at HF
    clear hr hok ho hf hff
    go_enter Try.func5, Try.ntmps5
    go_wp2_with (first
      | (go_at_call 17; refine HN.out.mono ?_; rintro e V ⟨b, g, rfl, t1, t2, t3, t4⟩; have H0 := Lib.hid t3; clear t1 t2 t3 t4)
      | (go_at_call 29; refine (HF.out _ H0.out).mono ?_; rintro e V ⟨rfl, rfl⟩)
      | (go_at_call 18; refine (HA.out _).mono ?_; rintro e V ⟨rfl, hb⟩; have HB := Lib.hid hb; clear hb))
    go_ret
    exact ⟨rfl, H0.out.trans (HB.out.mono H0.out.size)⟩
  have hff : decide (fewL l) = true := by simpa using hf
  have hl := hf.2
  have HR := Lib.hid hr
  rw [hff] at HF
  clear hr hok ho hf hff
  go_enter Try.func5, Try.ntmps5
  go_wp2_with (first
    | (go_at_call 17; refine HN.out.mono ?_; rintro e V ⟨b, g, rfl, t1, t2, t3, t4⟩; have H0 := Lib.hid t3; have H1 := Lib.hid (fun t => Run.start (l := l) (t := t) t1 t2 t3 t4); clear t1 t2 t3 t4)
    | (go_at_call 29; refine (HF.out _ H0.out).mono ?_; rintro e V ⟨rfl, rfl⟩))
  obtain ⟨r, hrr⟩ : ∃ r, V.heap.size = r := ⟨_, rfl⟩
  rw [hrr] at H1 ⊢
  clear hrr
  go_loopw [8] (fun i wr => ∃ (j : Nat), j ≤ l.length ∧ i = .int .i64 j ∧ Hid (Run w wr b o r l j)) (fun i _ => l.length - (intOf i).toNat)
  case atStart => exact ⟨0, by omega, rfl, Lib.hid (H1.out _)⟩
  case round =>
    obtain ⟨j, hj, rfl, HJ⟩ := hrel
    by_cases hlt : j < l.length
    · obtain ⟨⟨ask, key, v⟩, hx⟩ : ∃ x, l[j]? = some x := ⟨_, List.getElem?_eq_getElem hlt⟩
      obtain ⟨lb, lo, rfl, x0, x1, x2⟩ := top_at (HR.out.later HJ.out.2) hx
      have HD := Lib.hid (HJ.out.does hx hl)
      have k0 : (0 : Int) ≤ (j : Int) := by omega
      have k1 : (j : Int) < (l.length : Int) := by omega
      clear hx
      go_wp2_with (go_at_call 30; refine HD.out.mono ?_; rintro e V2 ⟨rfl, H2⟩)
      obtain ⟨la, lc, y0⟩ := H2.out.list
      obtain ⟨n, S, _, hn, hn2, hS, hC⟩ := H2.out.shape hl
      rw [← hn] at y0
      have HC : Hid (∀ W, Below V2.heap.size V2 W → Calls Try.prog 23 #[ptrV b] W fun e V => ∃ a c, e = .returned (.slice a S.length c) ∧ V.cell? ⟨r, 0, none⟩ = some (.slice la n lc) ∧ Hid (Shp W.heap.size V a c S ∧ Below V2.heap.size V2 V)) := Lib.hid (fun W hb => by
        refine (hC W hb).mono ?_
        rintro e V ⟨a, c, rfl, h1, h2⟩
        exact ⟨a, c, rfl, old_cell (old_cell y0 hb) h2, Lib.hid ⟨h1, hb.trans (h2.mono hb.size)⟩⟩)
      have HS : Hid (∀ (B : Nat) (W : World) (a : Option Addr) (c : Nat), Shp B W a c S → Below V2.heap.size V2 W → Calls Try.prog 22 #[.slice a S.length c, .int .i64 o, .int .i64 n] W fun e V => e = .returned (.bool true) ∧ V.cell? ⟨r, 0, none⟩ = some (.slice la n lc) ∧ Hid (Below V2.heap.size V2 V)) := Lib.hid (fun B W a c h hb => by
        refine (shaped_any B o n a c S hS W h).mono ?_
        rintro e V ⟨rfl, h2⟩
        exact ⟨rfl, old_cell (old_cell y0 hb) h2, Lib.hid (hb.trans (h2.mono hb.size))⟩)
      clear hn hS hC HD HJ x0 x1 x2
      go_region_held3 (fun V => V.cell? ⟨r, 0, none⟩ = some (.slice la n lc))
        (first | exact y0 | exact y1 | exact y2)
        (first
          | ((go_at_call 23; refine (HC.out _ (below_drewN _ 1)).mono ?_; rintro e V3 ⟨sa, sc, rfl, y1, H3⟩))
          | ((go_at_call 22; refine (HS.out _ _ _ _ H3.out.1 H3.out.2).mono ?_; rintro e V4 ⟨rfl, y2, H4⟩)))
      rename_i hHeld
      clear hHeld
      go_wp2
      go_roundw
      case rel => exact ⟨j + 1, by omega, by go_num, Lib.hid (H2.out.later H4.out)⟩
      case measure => simp [intOf]; omega
    · obtain rfl : j = l.length := by omega
      obtain ⟨n, S, _, hn, hn2, hS, hC⟩ := HJ.out.shape hl
      have y0 := HJ.out.count
      rw [← hn] at y0
      have HC := Lib.hid (hC wr (Below.refl _ _))
      have HL := Lib.hid (fun W hc => lenT_any b n W hc)
      have HS := Lib.hid (fun (B : Nat) (W : World) (a : Option Addr) (c : Nat) (h : Shp B W a c S) => shaped_any B o n a c S hS W h)
      clear hn hS hC hn2
      go_wp2_with (first
        | (go_at_call 23; refine HC.out.mono ?_; rintro e V3 ⟨sa, sc, rfl, q1, q2⟩; have H3 := Lib.hid (And.intro q1 q2); have y1 := old_cell y0 q2; clear q1 q2)
        | (go_at_call 31; refine (HL.out _ y1).mono ?_; rintro e V ⟨rfl, rfl⟩)
        | (go_at_call 22; refine (HS.out _ _ _ _ H3.out.1).mono ?_; rintro e V4 ⟨rfl, hb⟩; have H4 := Lib.hid hb; clear hb)
        | (go_at_call 18; refine (HA.out _).mono ?_; rintro e V5 ⟨rfl, hb⟩; have HB := Lib.hid hb; clear hb))
      go_ret
      have b1 := HJ.out.2.trans (H3.out.2.mono HJ.out.2.size)
      have b2 := b1.trans (H4.out.mono b1.size)
      exact ⟨rfl, b2.trans (HB.out.mono b2.size)⟩
end Go.Proofs.Ytbempjkkohjnbaa
