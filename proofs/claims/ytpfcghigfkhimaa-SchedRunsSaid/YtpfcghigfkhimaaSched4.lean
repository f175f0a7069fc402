/- Package sched: Idle. -/
import Derived.Test.YtpfcghigfkhimaaSched3
namespace Go.Proofs.Ytpfcghigfkhimaa
open Go.RowKit

/-- Numbers, as cells. -/
def intsV (L : List Int) : List Value := L.map (Value.int .i64)
theorem intsV_one (L : List Int) : ∀ u ∈ intsV L, u.oneCell' = true := by
  intro u hu
  obtain ⟨_, _, rfl⟩ := List.mem_map.1 hu
  rfl
theorem intsV_append (a b : List Int) : intsV (a ++ b) = intsV a ++ intsV b := by simp [intsV]
theorem intsV_length (a : List Int) : (intsV a).length = a.length := by simp [intsV]
/-- The workers that do nothing, of the first k. -/
def idleL (st : List (Option Int)) : Nat → List Int
  | 0 => []
  | k + 1 => idleL st k ++ (if look st (k : Int) = none then [(k : Int)] else [])
theorem idleL_len (st : List (Option Int)) (k : Nat) : (idleL st k).length ≤ k := by
  induction k with
  | zero => simp [idleL]
  | succ k ih =>
    rw [idleL, List.length_append]
    split <;> simp <;> omega
/-- A slice that was made since w0, in a world in which, of what there was, only cells of S have turned. -/
def LocF (S : Foot) (size : Nat) (w0 w : World) (a : Option Addr) (n c : Nat) (xs : List Value) : Prop := ∃ F, Sl w size F a n c xs ∧ Lies w F ∧ (∀ b o, F b o → w0.heap.size ≤ b) ∧ Fr S w0 w
section
variable {S : Foot} {size n c : Nat} {w0 w w' : World} {a : Option Addr} {xs : List Value}
theorem LocF.rd (h : LocF S size w0 w a n c xs) : Rd w size a n c xs := by
  obtain ⟨F, h1, _⟩ := h
  exact h1.rd
theorem LocF.low (h : LocF S size w0 w a n c xs) : Fr S w0 w := by
  obtain ⟨F, _, _, _, h1⟩ := h
  exact h1
theorem LocF.start (S : Foot) (size : Nat) (w0 w : World) (hb : Fr S w0 w) : LocF S size w0 w none 0 0 [] := ⟨noCells, Sl.none_ w size, fun _ _ h => h.elim, fun _ _ h => h.elim, hb⟩
theorem LocF.step {S' : Foot} (h : LocF S size w0 w a n c xs) (hf : Fr S' w w') (hs : ∀ b o, S' b o → S b o ∧ b < w0.heap.size) : LocF S size w0 w' a n c xs := by
  obtain ⟨F, h1, h2, h3, h4⟩ := h
  exact ⟨F, h1.fr hf (fun b o hb hs' => by have := h3 b o hb; have := (hs b o hs').2; omega), h2.later hf, h3, h4.trans hf (fun b o hb => .inl (hs b o hb).1)⟩
theorem LocF.later (h : LocF S size w0 w a n c xs) (hb : Below w.heap.size w w') : LocF S size w0 w' a n c xs := h.step (Fr.ofBelow hb noCells) (fun _ _ h => h.elim)
end
theorem wpList_app_locf {P : Program} {w : World} {ops : Array Oper} {rest : List Oper} {o : Oper} {a : Act} {Q : Exit → Act → World → Prop} (hgd : o.guard = none) (s x : Operand) (t : TypeId)
    (ho : o.op = .call { callee := .builtin .append, args := #[s, x], argTypes := #[t, t] })
    (e : TypeId) (i : TypeInfo) (z : Value) (size bytes : Nat) (ht : P.underlying t = some (.slice e)) (hi : P.info? e = some i) (hz : i.zero = some z)
    (hsize : i.size = size) (hby : i.bytes = bytes) (hzs : z.cells.size = size) (hsz : 0 < size)
    (S : Foot) (w0 : World) (a1 : Option Addr) (n c : Nat) (xs : List Value) (hs : a.eval s = .slice a1 n c) (hown : LocF S size w0 w a1 n c xs)
    (a2 : Option Addr) (m c2 : Nat) (news : List Value) (hx : a.eval x = .slice a2 m c2) (hr : Rd w size a2 m c2 news)
    (N : Nat) (ys : List Value) (hN : n + m = N) (hys : xs ++ news = ys) (h63 : N ≤ maxLen) (hbytes : N * bytes ≤ 140737488355328)
    (h : ∀ a' c' w', LocF S size w0 w' a' N c' ys → (∃ F, (∀ b o, F b o → w0.heap.size ≤ b) ∧ Fr F w w') → wpList P ops Q rest (a.put o.dst (.slice a' N c')) w') : wpList P ops Q (o :: rest) a w := by
  obtain ⟨F, h1, h2, h3, h4⟩ := hown
  refine wpList_app_sl hgd s x t ho e i z size bytes ht hi hz hsize hby hzs hsz F a1 n c xs hs h1 h2 a2 m c2 news hx hr N ys hN hys h63 hbytes fun a' c' w' F' k1 k2 k3 k4 => h a' c' w' ⟨F', k1, k4, fun b o hb => ?_, h4.trans k2 (fun b o hb => .inr (h3 b o hb))⟩ ⟨F, h3, k2⟩
  rcases k3 b o hb with hb | hb
  · exact h3 b o hb
  · have := h4.size; omega
theorem Try.infoInt : (Try.prog.info? 3).map (fun i => (i.zero, i.size, i.bytes)) = some (some (.int .i64 0), 1, 8) := by kernel_rfl
section
variable (g sb : Nat) (chs : List Nat) (st : List (Option Int))
theorem idle_nil (w : World) : Calls Try.prog 13 #[.pointer none] w fun e w' => e = .returned (.slice none 0 0) ∧ w = w' := by
  go_enter Try.func13, Try.ntmps13
  go_wp2
  go_ret
  exact ⟨rfl, rfl⟩
/-- What lies below w0 and is the board's. -/
theorem Brd.below {w : World} (h : Brd w g sb chs st) : ∀ b o, bF chs b o → bF chs b o ∧ b < w.heap.size := by
  intro b o hb
  refine ⟨hb, ?_⟩
  obtain ⟨i, hi, e⟩ := List.getElem_of_mem hb
  have hlen := h.len
  exact (h.slots i b (st[i]'(by omega)) (by rw [List.getElem?_eq_getElem hi, e]) (List.getElem?_eq_getElem (by omega))).lt
/-- The board stays while new blocks are made and written. -/
theorem Brd.stay {w0 w w' : World} {F : Foot} (h0 : Brd w0 g sb chs st) (h : Brd w g sb chs st) (hf : Fr F w w') (hF : ∀ b o, F b o → w0.heap.size ≤ b) : Brd w' g sb chs st := by
  have hg := block_of_cell h0.ptr
  have hb := Brd.below g sb chs st h0
  refine h.fr hf (fun o ho => ?_) (fun o ho => ?_) (fun c hc o ho => ?_)
  · have := hF _ _ ho; simp only at hg; omega
  · obtain ⟨c, hc⟩ : ∃ c, chs[0]? = some c := ⟨_, List.getElem?_eq_getElem h0.pos⟩
    have h1 := block_of_cell (h0.row 0 c hc)
    have h2 := hF _ _ ho
    simp only at h1
    omega
  · have := hF _ _ ho; have := (hb c o hc).2; omega
set_option maxHeartbeats 1000000 in
theorem idle_any (w : World) (h : Brd w g sb chs st) :
    Calls Try.prog 13 #[.pointer (some ⟨g, 0, none⟩)] w fun e w' => ∃ a c, e = .returned (.slice a (idleL st chs.length).length c) ∧ LocF (bF chs) 1 w w' a (idleL st chs.length).length c (intsV (idleL st chs.length)) ∧ Brd w' g sb chs st := by
  obtain ⟨i0, hi, hz0, hz1, hz2⟩ := info_parts Try.infoInt
  have hp := h.ptr
  have hfew := h.few
  have HB := Lib.hid h
  clear h
  go_enter Try.func13, Try.ntmps13
  go_wp2
  clear hp
  go_loopw [3, 14] (fun s t wr => ∃ (m : Nat) (a : Option Addr) (c : Nat), m ≤ chs.length ∧ t = .int .i64 m ∧ s = .slice a (idleL st m).length c ∧ Hid (Brd wr g sb chs st ∧ LocF (bF chs) 1 w wr a (idleL st m).length c (intsV (idleL st m)))) (fun _ t _ => chs.length - (intOf t).toNat)
  case atStart => exact ⟨0, none, 0, by omega, rfl, rfl, Lib.hid ⟨HB.out, LocF.start _ 1 w w (Fr.refl _ _)⟩⟩
  case round =>
    obtain ⟨m, a, c, hm, rfl, rfl, HS⟩ := hrel
    by_cases hmt : m < chs.length
    · have hil := idleL_len st m
      cases hlk : look st (m : Int) with
      | none =>
        have HE : Hid (idleL st (m + 1) = idleL st m ++ [(m : Int)]) := Lib.hid (by rw [idleL, if_pos hlk])
        have HDm := Lib.hid (does_none g sb chs st (m : Int) hlk wr HS.out.1)
        clear hlk
        go_wp2_with (first
          | (go_at_call 12; refine HDm.out.mono ?_; rintro e w1 ⟨rfl, rfl⟩)
          | (at_builtin; refine wpList_app_locf rfl (.tmp 25) (.tmp 27) 22 rfl 3 i0 (.int .i64 0) 1 8 Try.underlying22 hi hz0 hz1 hz2 rfl (by decide) (bF chs) w a (idleL st m).length c (intsV (idleL st m)) rfl (HS.out.2.later ((Below.refl _ _).alloc (Nat.le_refl _) _)) (some ⟨wr.heap.size, 0, none⟩) 1 1 [.int .i64 (m : Int)] rfl (Rd.oneNew wr (.int .i64 (m : Int)) _ rfl) ((idleL st m).length + 1) (intsV (idleL st m ++ [(m : Int)])) rfl (intsV_append (idleL st m) [(m : Int)]).symm (by unfold maxLen; omega) (by omega) ?_; intro a2 c2 w2 ho hf; have HO := Lib.hid (And.intro ho hf); clear ho hf))
        go_roundw
        case rel =>
          have hlen : (idleL st (m + 1)).length = (idleL st m).length + 1 := by rw [HE.out, List.length_append]; rfl
          refine ⟨m + 1, a2, c2, by omega, by go_num, by rw [hlen], Lib.hid ?_⟩
          rw [hlen, HE.out]
          obtain ⟨F, hF, hf⟩ := HO.out.2
          exact ⟨Brd.stay g sb chs st HB.out (HS.out.1.later ((Below.refl _ _).alloc (Nat.le_refl _) _)) hf hF, HO.out.1⟩
        case measure => simp [intOf]; omega
      | some d =>
        have HE : Hid (idleL st (m + 1) = idleL st m) := Lib.hid (by rw [idleL, if_neg (by rw [hlk]; simp), List.append_nil])
        have HDm := Lib.hid (does_some g sb chs st (m : Int) d hlk wr HS.out.1)
        clear hlk
        go_wp2_with (first
          | (go_at_call 12; refine HDm.out.mono ?_; rintro e w1 ⟨rfl, hb⟩; have H1 := Lib.hid hb; clear hb))
        go_roundw
        case rel =>
          refine ⟨m + 1, a, c, by omega, by go_num, by rw [HE.out], Lib.hid ?_⟩
          rw [HE.out]
          exact ⟨H1.out.1, HS.out.2.step H1.out.2 (Brd.below g sb chs st HB.out)⟩
        case measure => simp [intOf]; omega
    · obtain rfl : m = chs.length := by omega
      go_wp2
      go_ret
      exact ⟨a, c, rfl, HS.out.2, HS.out.1⟩
end
end Go.Proofs.Ytpfcghigfkhimaa
