/- The laws of package sched: SchedRuns. -/
import Derived.Test.YtpfcghigfkhimaaSched18
import Derived.Test.YtpfcghigfkhimaaSched19
namespace Go.Proofs.Ytpfcghigfkhimaa
open Go.RowKit

def rngI (k : Nat) : List Int := (List.range k).map fun i : Nat => (i : Int)
theorem rngI_succ (k : Nat) : rngI (k + 1) = rngI k ++ [(k : Int)] := by unfold rngI; rw [List.range_succ, List.map_append]; rfl
theorem rngI_length (k : Nat) : (rngI k).length = k := by simp [rngI]
theorem rngI_mem (k : Nat) (x : Int) : x ∈ rngI k ↔ 0 ≤ x ∧ x < k := by
  unfold rngI
  rw [List.mem_map]
  constructor
  · rintro ⟨i, hi, rfl⟩
    have := List.mem_range.1 hi
    omega
  · rintro ⟨h1, h2⟩
    exact ⟨x.toNat, List.mem_range.2 (by omega), by omega⟩
theorem rngI_nodup (k : Nat) : (rngI k).Nodup := by
  unfold rngI
  exact List.Pairwise.map _ (fun a b h e => h (by omega)) List.nodup_range
theorem made_ints (m : Nat) (h : m ≤ 20) : (madeCells (Value.int .i64 0).cells (m * 1)).toList = intsV (List.replicate m 0) := by
  have : m = 0 ∨ m = 1 ∨ m = 2 ∨ m = 3 ∨ m = 4 ∨ m = 5 ∨ m = 6 ∨ m = 7 ∨ m = 8 ∨ m = 9 ∨ m = 10 ∨ m = 11 ∨ m = 12 ∨ m = 13 ∨ m = 14 ∨ m = 15 ∨ m = 16 ∨ m = 17 ∨ m = 18 ∨ m = 19 ∨ m = 20 := by omega
  rcases this with rfl | rfl | rfl | rfl | rfl | rfl | rfl | rfl | rfl | rfl | rfl | rfl | rfl | rfl | rfl | rfl | rfl | rfl | rfl | rfl | rfl
  all_goals (show Array.toList _ = intsV _; kernel_rfl)
theorem make_ints (m : Nat) (h : m ≤ 20) : ∃ M : Array Value, M.toList = intsV (List.replicate m 0) ∧ ∀ W : World, (Instr.makeSlice 22 (.int .i64 (m : Int)) (.int .i64 (m : Int))).run Try.prog W = .ok (.slice (some ⟨W.heap.size, 0, none⟩) m m) (W.alloc (.cells M 3)) := by
  obtain ⟨i0, hi, hz0, hz1, hz2⟩ := info_parts Try.infoInt
  obtain ⟨M, hM⟩ : ∃ M, M = madeCells (Value.int .i64 0).cells (((m : Nat) : Int).toNat * i0.size) := ⟨_, rfl⟩
  refine ⟨M, by rw [hM, hz1, Int.toNat_natCast]; exact made_ints m h, fun W => ?_⟩
  have h := run_make (P := Try.prog) W 22 3 i0 (.int .i64 0) Try.underlying22 hi hz0 .i64 .i64 (m : Int) (m : Int) (by omega) (by omega) (by rw [hz2]; omega) (by omega)
  rw [← hM] at h
  simpa using h
/-- Memory of the runs: a board, what is ready (ar), what was started (block B). -/
structure Rn (w0 w : World) (g sb : Nat) (chs : List Nat) (n : Nat) (st : List (Option Int)) (B m : Nat) (S : List Int) (ar : Option Addr) (cr : Nat) (ready : List Int) : Prop where
  new : New w0 w g sb chs st
  chl : chs.length = n
  wf : WfO st
  rd : Rd w 1 ar ready.length cr (intsV ready)
  rne : ready ≠ [] → ∀ x, ar = some x → x.block ≠ B
  bg : B ≠ g
  bs : B ≠ sb
  bc : B ∉ chs
  b0 : w0.heap.size ≤ B
  bl : B < w.heap.size
  cells : ∀ i x, S[i]? = some x → w.cell? ⟨B, i, none⟩ = some (.int .i64 x)
  froz : ∀ i, i < m → w.frozen? ⟨B, i, none⟩ = false
  sl : S.length = m
theorem Rd.frb {S : Foot} {w w' : World} {size : Nat} {a : Option Addr} {n c : Nat} {vs : List Value} (h : Rd w size a n c vs) (hf : Fr S w w') (hs : vs ≠ [] → ∀ x, a = some x → ∀ o, ¬ S x.block o) : Rd w' size a n c vs := by
  refine ⟨h.len, h.le, h.cap, h.nil, fun x hx i u hu => ?_, h.one⟩
  have hc := h.cell x hx i u hu
  have hne : vs ≠ [] := by rintro rfl; simp at hu
  have hn := hs hne x hx
  have hbk := addr_add_block x i
  have hsp := World.cell?_spot hc
  generalize x.add i = y at hc hsp hbk ⊢
  obtain ⟨b, o, s⟩ := y
  have : s = none := hsp
  subst this
  have hbk : b = x.block := hbk
  subst hbk
  exact cell_fr hf hc (hn _)
section
variable {w0 w w' : World} {g sb : Nat} {chs : List Nat} {n : Nat} {st st' : List (Option Int)} {B m : Nat} {S : List Int} {ar : Option Addr} {cr : Nat} {ready : List Int}
theorem Rn.later (h : Rn w0 w g sb chs n st B m S ar cr ready) (hb : Below w.heap.size w w') : Rn w0 w' g sb chs n st B m S ar cr ready :=
  ⟨h.new.later hb, h.chl, h.wf, h.rd.later hb, h.rne, h.bg, h.bs, h.bc, h.b0, Nat.lt_of_lt_of_le h.bl hb.size, fun i x hx => old_cell (h.cells i x hx) hb, fun i hi => (hb.frozen (p := ⟨B, i, none⟩) h.bl).trans (h.froz i hi), h.sl⟩
theorem Rn.turn (h : Rn w0 w g sb chs n st B m S ar cr ready) (hb : Brd w' g sb chs st') (hf : Fr (bF chs) w w') (hw : WfO st') : Rn w0 w' g sb chs n st' B m S ar cr ready :=
  ⟨h.new.turn hb hf, h.chl, hw, h.new.keep h.rd hf, h.rne, h.bg, h.bs, h.bc, h.b0, hf.lt h.bl, fun i x hx => cell_fr hf (h.cells i x hx) h.bc, fun i hi => (hf.froz B i h.bl h.bc).trans (h.froz i hi), h.sl⟩
theorem Rn.put (h : Rn w0 w g sb chs n st B m S ar cr ready) {j : Nat} (hj : j < m) (x : Int) : Rn w0 (w.setCell ⟨B, j, none⟩ (.int .i64 x)) g sb chs n st B m (S.set j x) ar cr ready := by
  have hcell : ∃ u, w.cell? ⟨B, j, none⟩ = some u := ⟨_, h.cells j _ (List.getElem?_eq_getElem (by rw [h.sl]; exact hj))⟩
  obtain ⟨u, hu⟩ := hcell
  have hf : Fr (fun k o => k = B ∧ o = j) w (w.setCell ⟨B, j, none⟩ (.int .i64 x)) := (Fr.refl _ w).setCell (.inl ⟨rfl, rfl⟩) _
  have hf2 : Fr (fun k _ => k = B) w (w.setCell ⟨B, j, none⟩ (.int .i64 x)) := hf.mono (fun b o h => h.1)
  refine ⟨⟨h.new.brd.fr hf2 (fun _ e => h.bg e.symm) (fun _ e => h.bs e.symm) (fun c hc _ e => h.bc (e ▸ hc)), h.new.low.trans (hf2.below h.new.low.size (fun b o e => by subst e; exact h.b0)), h.new.g0, h.new.sb0, h.new.c0⟩, h.chl, h.wf, h.rd.frb hf2 (fun hne x hx o e => h.rne (fun e2 => hne (by rw [e2]; rfl)) x hx e), h.rne, h.bg, h.bs, h.bc, h.b0, hf.lt h.bl, fun i y hy => ?_, fun i hi => by rw [World.frozen?_setCell]; exact h.froz i hi, by rw [List.length_set, h.sl]⟩
  by_cases hij : i = j
  · subst hij
    rw [List.getElem?_set_self (by rw [h.sl]; exact hj)] at hy
    cases hy
    exact World.cell?_setCell_same _ _ _ hu
  · rw [List.getElem?_set_ne (Ne.symm hij)] at hy
    exact cell_fr hf (h.cells i y hy) (fun e => hij e.2)
theorem Rn.swap (h : Rn w0 w g sb chs n st B m S ar cr ready) {a' : Option Addr} {c' : Nat} {r' : List Int} {wx : World} (hx : w.heap.size ≤ wx.heap.size) (hb : Below wx.heap.size wx w') (hr : Rn w0 w' g sb chs n st B m S ar cr ready) (hl : Loc 1 wx w' a' r'.length c' (intsV r')) : Rn w0 w' g sb chs n st B m S a' c' r' := by
  refine ⟨hr.new, hr.chl, hr.wf, hl.rd, fun hne x hx2 e => ?_, hr.bg, hr.bs, hr.bc, hr.b0, hr.bl, hr.cells, hr.froz, hr.sl⟩
  obtain ⟨F, h1, _, h3, _⟩ := hl
  have hpos : 0 < r'.length * 1 := by have := List.length_pos_iff.2 hne; omega
  obtain ⟨b, o, e2, h4, _⟩ := h1.addr hpos
  rw [e2] at hx2
  cases hx2
  have hc := h1.le
  have := h3 b (o + 0) (h4 0 (by omega))
  have h5 := h.bl
  simp only at e
  omega
theorem Rn.begin_ (h : New w0 w g sb chs st) (hc : chs.length = n) (hw : WfO st) (hr : Rd w 1 ar ready.length cr (intsV ready)) {M : Array Value} (hM : M.toList = intsV (List.replicate m 0)) (t : TypeId) :
    Rn w0 (w.alloc (.cells M t)) g sb chs n st w.heap.size m (List.replicate m 0) ar cr ready := by
  have hg : g < w.heap.size := block_of_cell h.brd.ptr
  have hlb : Below w.heap.size w (w.alloc (.cells M t)) := al1 w _
  have hs : ∀ i x, (List.replicate m (0 : Int))[i]? = some x → (w.alloc (.cells M t)).cell? ⟨w.heap.size, i, none⟩ = some (.int .i64 x) := fun i x hx => by
    rw [cell_of_row _ w.heap.size i _ t (0, 0) (heap_alloc_new w _)]
    have : M = (intsV (List.replicate m 0)).toArray := by rw [← hM]
    rw [this]
    simpa using intsV_get hx
  refine ⟨h.later hlb, hc, hw, hr.later hlb, fun hne x hx e => ?_, by omega, fun e => ?_, fun hm => ?_, h.low.size, by rw [World.size_alloc]; omega, hs, fun i hi => ?_, List.length_replicate ..⟩
  · have := hr.lt x hx (by intro e2; apply hne; exact List.map_eq_nil_iff.1 e2)
    omega
  · have hpos := h.brd.pos
    have hc0 := h.brd.row 0 _ (List.getElem?_eq_getElem hpos)
    have := block_of_cell hc0
    simp only at this
    omega
  · obtain ⟨i, hi, e⟩ := List.mem_iff_getElem.1 hm
    have hl := h.brd.len
    have := (h.brd.slots i _ _ (List.getElem?_eq_getElem hi) (List.getElem?_eq_getElem (by omega))).lt
    rw [e] at this
    omega
  · exact World.frozen?_alloc_new ..
end
end Go.Proofs.Ytpfcghigfkhimaa
