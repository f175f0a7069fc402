/- Package sched: lay and lift: a slot is a channel of room one; nobody else is there. -/
import Derived.Test.YtpfcghigfkhimaaProg
import Derived.Test.YtpfcghigfkhimaaMem
import Derived.Conc.LoneSelect
import Derived.KernelRfl
import Derived.Laws.Rows
import Derived.Handy
namespace Go.Proofs.Ytpfcghigfkhimaa
open Go.Conc Go.RowKit

/-- A slot's buffer. -/
def bufOf : Option Int → Array Value
  | none => #[]
  | some i => #[.int .i64 i]
/-- A slot in block c, that holds a number or nothing. -/
def Slot (w : World) (c : Nat) (o : Option Int) : Prop := ∃ s r, w.heap[c]? = some (.chan 1 (bufOf o) false s r false)
theorem Slot.lt {w : World} {c : Nat} {o : Option Int} (h : Slot w c o) : c < w.heap.size := by
  obtain ⟨s, r, h⟩ := h
  exact (Array.getElem?_eq_some_iff.1 h).1
theorem Slot.fr {S : Foot} {w w' : World} {c : Nat} {o : Option Int} (h : Slot w c o) (hf : Fr S w w') (hs : ∀ i, ¬ S c i) : Slot w' c o := by
  have hl := h.lt
  obtain ⟨s, r, h⟩ := h
  exact ⟨s, r, (hf.block c hl hs).trans h⟩
theorem Fr.setChan (w : World) (c cap : Nat) (buf : Array Value) (cl : Bool) (s r : Nat) (tm : Bool) : Fr (fun k _ => k = c) w (w.setChan c cap buf cl s r tm) := by
  have hb : ∀ k, k ≠ c → (w.setChan c cap buf cl s r tm).heap[k]? = w.heap[k]? := fun k hk => by
    simp only [World.setChan]; rw [Array.getElem?_setIfInBounds_ne (by omega)]
  exact ⟨rfl, rfl, rfl, by simp [World.setChan], fun k _ hn => hb k (fun e => hn 0 e), fun k o _ hn => World.cell?_of_block (hb k hn), fun k o _ hn => World.frozen?_of_block (hb k hn)⟩

set_option maxRecDepth 100000 in
theorem lay_room (c : Nat) (i : Int) (w : World) (h : Slot w c none) :
    Calls Try.prog 22 #[.chan (some c), .int .i64 i] w fun e w' => e = .returned (.bool true) ∧ Slot w' c (some i) ∧ Fr (fun k _ => k = c) w w' := by
  obtain ⟨s, r, hc⟩ := h
  have hlt : c < w.heap.size := (Array.getElem?_eq_some_iff.1 hc).1
  refine calls_of_loneTo fun cs => ?_
  have e : Frame.enter Try.prog 22 #[.chan (some c), .int .i64 i] .normal = (base 22).at ⟨#[.chan (some c), .int .i64 i, undef, undef, undef, undef, undef, undef, undef, undef], []⟩ [.code (Try.f22.body.getD .skip)] := by
    simp [Frame.enter, Frame.at, Try.func22, base, Try.f22]
  rw [e]
  refine LoneTo.goes (n := 40) ?_
  simp only [Try.f22, Option.getD_some]
  s_c stepG_seq
  s_reg
  s_op
  s_c stepG_region_end
  s_c stepG_seq
  s_c stepG_seq
  s_reg
  s_op
  s_c stepG_region_end
  s_reg
  s_op
  s_c stepG_region_end
  s_c stepG_seq
  s_reg
  s_stop
  refine LoneTo.step (step_lone_select_send_room (c := c) (cap := 1) (buf := #[]) (s := s) (r := r) (tm := false) (stepG_comm (cases := #[scase c (.int .i64 i) (.int .i64 0)]) (blocking := false) (shape := .select) (w' := w) rfl rfl (by decide) (by simp [go_sem, execOp, scase, Act.eval])) hc (by simp)) ?_
  rw [Frame.finish_at]
  walk_nrm
  refine LoneTo.goes (n := 40) ?_
  s_op
  s_op
  s_c stepG_region_end
  s_c stepG_block
  s_cond true
  s_c stepG_seq
  s_reg
  s_op
  s_c stepG_region_end
  s_c stepG_ret'
  s_stop
  refine LoneTo.done ⟨.returned (.bool true), _, rfl, ⟨rfl, ?_⟩, rfl, rfl, rfl, rfl, _, Try.func22, by simp [results, Try.f22, Frame.at]⟩
  exact ⟨⟨_, _, heap_setChan w c 1 _ false _ _ false hlt⟩, Fr.setChan _ _ _ _ _ _ _ _⟩
set_option maxRecDepth 100000 in
theorem lay_full (c : Nat) (i j : Int) (w : World) (h : Slot w c (some j)) :
    Calls Try.prog 22 #[.chan (some c), .int .i64 i] w fun e w' => e = .returned (.bool false) ∧ w = w' := by
  obtain ⟨s, r, hc⟩ := h
  have hlt : c < w.heap.size := (Array.getElem?_eq_some_iff.1 hc).1
  refine calls_of_loneTo fun cs => ?_
  have e : Frame.enter Try.prog 22 #[.chan (some c), .int .i64 i] .normal = (base 22).at ⟨#[.chan (some c), .int .i64 i, undef, undef, undef, undef, undef, undef, undef, undef], []⟩ [.code (Try.f22.body.getD .skip)] := by
    simp [Frame.enter, Frame.at, Try.func22, base, Try.f22]
  rw [e]
  refine LoneTo.goes (n := 40) ?_
  simp only [Try.f22, Option.getD_some]
  s_c stepG_seq
  s_reg
  s_op
  s_c stepG_region_end
  s_c stepG_seq
  s_c stepG_seq
  s_reg
  s_op
  s_c stepG_region_end
  s_reg
  s_op
  s_c stepG_region_end
  s_c stepG_seq
  s_reg
  s_stop
  refine LoneTo.step (step_lone_select_send_full (c := c) (cap := 1) (buf := #[.int .i64 j]) (s := s) (r := r) (tm := false) (stepG_comm (cases := #[scase c (.int .i64 i) (.int .i64 0)]) (blocking := false) (shape := .select) (w' := w) rfl rfl (by decide) (by simp [go_sem, execOp, scase, Act.eval])) hc (by simp)) ?_
  rw [Frame.finish_at]
  walk_nrm
  refine LoneTo.goes (n := 40) ?_
  s_op
  s_op
  s_c stepG_region_end
  s_c stepG_block
  s_cond false
  s_c stepG_seq
  s_reg
  s_op
  s_c stepG_region_end
  s_c stepG_ret'
  s_stop
  refine LoneTo.done ⟨.returned (.bool false), _, rfl, ⟨rfl, rfl⟩, rfl, rfl, rfl, rfl, _, Try.func22, by simp [results, Try.f22, Frame.at]⟩
set_option maxRecDepth 100000 in
theorem lift_has (c : Nat) (i : Int) (w : World) (h : Slot w c (some i)) :
    Calls Try.prog 23 #[.chan (some c)] w fun e w' => e = .returned (.tuple #[.int .i64 i, .bool true]) ∧ Slot w' c none ∧ Fr (fun k _ => k = c) w w' := by
  obtain ⟨s, r, hc⟩ := h
  have hlt : c < w.heap.size := (Array.getElem?_eq_some_iff.1 hc).1
  refine calls_of_loneTo fun cs => ?_
  have e : Frame.enter Try.prog 23 #[.chan (some c)] .normal = (base 23).at ⟨#[.chan (some c), undef, undef, undef, undef, undef, undef, undef, undef, undef, undef], []⟩ [.code (Try.f23.body.getD .skip)] := by
    simp [Frame.enter, Frame.at, Try.func23, base, Try.f23]
  rw [e]
  refine LoneTo.goes (n := 40) ?_
  simp only [Try.f23, Option.getD_some]
  s_c stepG_seq
  s_reg
  s_op
  s_op
  s_c stepG_region_end
  s_c stepG_seq
  s_reg
  s_op
  s_c stepG_region_end
  s_c stepG_seq
  s_reg
  s_stop
  refine LoneTo.step (step_lone_select_recv_buf (c := c) (z := .int .i64 0) (cap := 1) (buf := #[.int .i64 i]) (s := s) (r := r) (tm := false) (closed := false) (stepG_comm (cases := #[rcase c (.int .i64 0)]) (blocking := false) (shape := .select) (w' := w) rfl rfl (by decide) (by simp [go_sem, execOp, rcase, Act.eval])) hc (by simp)) ?_
  rw [Frame.finish_at]
  walk_nrm
  refine LoneTo.goes (n := 40) ?_
  s_op
  s_op
  s_c stepG_region_end
  s_c stepG_block
  s_cond true
  s_c stepG_seq
  s_reg
  s_op
  s_op
  s_c stepG_region_end
  s_c stepG_seq
  s_reg
  s_op
  s_op
  s_op
  s_c stepG_region_end
  s_c stepG_ret'
  s_stop
  refine LoneTo.done ⟨.returned (.tuple #[.int .i64 i, .bool true]), _, rfl, ⟨rfl, ?_⟩, rfl, rfl, rfl, rfl, _, Try.func23, by simp [results, Try.f23, Frame.at]⟩
  exact ⟨⟨_, _, heap_setChan w c 1 _ false _ _ false hlt⟩, Fr.setChan _ _ _ _ _ _ _ _⟩
set_option maxRecDepth 100000 in
theorem lift_none (c : Nat) (w : World) (h : Slot w c none) :
    Calls Try.prog 23 #[.chan (some c)] w fun e w' => e = .returned (.tuple #[.int .i64 0, .bool false]) ∧ w = w' := by
  obtain ⟨s, r, hc⟩ := h
  have hlt : c < w.heap.size := (Array.getElem?_eq_some_iff.1 hc).1
  refine calls_of_loneTo fun cs => ?_
  have e : Frame.enter Try.prog 23 #[.chan (some c)] .normal = (base 23).at ⟨#[.chan (some c), undef, undef, undef, undef, undef, undef, undef, undef, undef, undef], []⟩ [.code (Try.f23.body.getD .skip)] := by
    simp [Frame.enter, Frame.at, Try.func23, base, Try.f23]
  rw [e]
  refine LoneTo.goes (n := 40) ?_
  simp only [Try.f23, Option.getD_some]
  s_c stepG_seq
  s_reg
  s_op
  s_op
  s_c stepG_region_end
  s_c stepG_seq
  s_reg
  s_op
  s_c stepG_region_end
  s_c stepG_seq
  s_reg
  s_stop
  refine LoneTo.step (step_lone_select_default (c := c) (z := .int .i64 0) (cap := 1) (s := s) (r := r) (tm := false) (stepG_comm (cases := #[rcase c (.int .i64 0)]) (blocking := false) (shape := .select) (w' := w) rfl rfl (by decide) (by simp [go_sem, execOp, rcase, Act.eval])) hc) ?_
  rw [Frame.finish_at]
  walk_nrm
  refine LoneTo.goes (n := 40) ?_
  s_op
  s_op
  s_c stepG_region_end
  s_c stepG_block
  s_cond false
  s_c stepG_seq
  s_reg
  s_op
  s_op
  s_c stepG_region_end
  s_c stepG_ret'
  s_stop
  refine LoneTo.done ⟨.returned (.tuple #[.int .i64 0, .bool false]), _, rfl, ⟨rfl, ?_⟩, rfl, rfl, rfl, rfl, _, Try.func23, by simp [results, Try.f23, Frame.at]⟩
  rfl
end Go.Proofs.Ytpfcghigfkhimaa
