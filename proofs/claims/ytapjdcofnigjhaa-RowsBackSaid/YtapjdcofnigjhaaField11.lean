/- The laws of package field: ops, Few, awake. -/
import Derived.Test.YtapjdcofnigjhaaField10
namespace Go.Proofs.Ytapjdcofnigjhaa
open Go.RowKit
/-- What is written: a kind, a number, a text. -/
abbrev FOp := Int × Int × List UInt8
def fopsV (L : List FOp) : List Value := L.flatMap fun x => [.int .i64 x.1, .int .i64 x.2.1, .string ⟨x.2.2.toArray⟩]
theorem fopsV_length (L : List FOp) : (fopsV L).length = L.length * 3 := by
  induction L with
  | nil => rfl
  | cons x L ih =>
    have : fopsV (x :: L) = [.int .i64 x.1, .int .i64 x.2.1, .string ⟨x.2.2.toArray⟩] ++ fopsV L := by simp [fopsV]
    rw [this, List.length_append, ih, List.length_cons]
    simp
    omega
theorem fopsV_one (L : List FOp) : ∀ u ∈ fopsV L, u.oneCell' = true := by
  intro u hu
  obtain ⟨x, _, h⟩ := List.mem_flatMap.1 hu
  simp only [List.mem_cons, List.not_mem_nil, or_false] at h
  rcases h with rfl | rfl | rfl <;> rfl
theorem fopsV_get {L : List FOp} {j : Nat} {x : FOp} (hj : L[j]? = some x) : (fopsV L)[j * 3]? = some (.int .i64 x.1) ∧ (fopsV L)[j * 3 + 1]? = some (.int .i64 x.2.1) ∧ (fopsV L)[j * 3 + 2]? = some (.string ⟨x.2.2.toArray⟩) := by
  induction L generalizing j with
  | nil => simp at hj
  | cons y L ih =>
    have hy : fopsV (y :: L) = [.int .i64 y.1, .int .i64 y.2.1, .string ⟨y.2.2.toArray⟩] ++ fopsV L := by simp [fopsV]
    match j with
    | 0 =>
      simp at hj
      subst hj
      rw [hy]
      simp
    | j + 1 =>
      obtain ⟨h0, h1, h2⟩ := ih (j := j) (by simpa using hj)
      rw [hy]
      refine ⟨?_, ?_, ?_⟩
      · rw [List.getElem?_append_right (by simp; omega)]; rw [← h0]; congr 1; simp; omega
      · rw [List.getElem?_append_right (by simp; omega)]; rw [← h1]; congr 1; simp; omega
      · rw [List.getElem?_append_right (by simp; omega)]; rw [← h2]; congr 1; simp; omega
theorem fop_at {w : World} {a : Option Addr} {n c : Nat} {L : List FOp} (h : Rd w 3 a n c (fopsV L)) {j : Nat} {x : FOp} (hj : L[j]? = some x) :
    ∃ b o, a = some ⟨b, o, none⟩ ∧ w.cell? ⟨b, o + j * 3, none⟩ = some (.int .i64 x.1) ∧ w.cell? ⟨b, o + j * 3 + 1, none⟩ = some (.int .i64 x.2.1) ∧ w.cell? ⟨b, o + j * 3 + 2, none⟩ = some (.string ⟨x.2.2.toArray⟩) := by
  obtain ⟨h0, h1, h2⟩ := fopsV_get hj
  obtain ⟨b, o, e, hc⟩ := h.addr (by intro hn; rw [hn] at h0; simp at h0)
  refine ⟨b, o, e, hc _ _ h0, ?_, ?_⟩
  · have := hc _ _ h1
    rwa [← Nat.add_assoc] at this
  · have := hc _ _ h2
    rwa [← Nat.add_assoc] at this
/-- Not too many, not too long. -/
def fewL (L : List FOp) : Prop := (∀ x ∈ L, x.2.2.length ≤ 100) ∧ L.length ≤ 40
instance (L : List FOp) : Decidable (fewL L) := inferInstanceAs (Decidable (_ ∧ _))
set_option maxRecDepth 100000 in
theorem few_any (a : Option Addr) (c : Nat) (L : List FOp) (hn : L.length ≤ 9223372036854775807) (hs : ∀ x ∈ L, x.2.2.length ≤ 9223372036854775807) (w : World) (h : Rd w 3 a L.length c (fopsV L)) :
    Calls Try.prog 22 #[.slice a L.length c] w fun e w' => e = .returned (.bool (decide (fewL L))) ∧ w = w' := by
  generalize hr : decide (fewL L) = r
  have HR := Lib.hid hr
  have HS := Lib.hid hs
  have HB := Lib.hid h
  clear h hr hs
  go_enter Try.func22, Try.ntmps22
  go_wp2
  go_loopw [3] (fun i wr => ∃ (k : Nat), k ≤ L.length ∧ i = .int .i64 k ∧ Hid (∀ x ∈ L.take k, x.2.2.length ≤ 100) ∧ wr = w) (fun i _ => L.length - (intOf i).toNat)
  case atStart => exact ⟨0, by omega, rfl, Lib.hid (fun x hx => by cases hx), rfl⟩
  case round =>
    obtain ⟨k, hk, rfl, HK, rfl⟩ := hrel
    by_cases hlt : k < L.length
    · obtain ⟨⟨ki, n, t⟩, hx⟩ : ∃ x, L[k]? = some x := ⟨_, List.getElem?_eq_getElem hlt⟩
      obtain ⟨b, o, rfl, x0, x1, x2⟩ := fop_at HB.out hx
      have HX := Lib.hid hx
      have hts := text_size t
      have htl := HS.out _ (List.mem_of_getElem? hx)
      simp only at x2 htl
      have k0 : (0 : Int) ≤ (k : Int) := by omega
      have k1 : (k : Int) < (L.length : Int) := by omega
      clear hx x0 x1
      by_cases ht : t.length ≤ 100
      · have ht' : (t.length : Int) ≤ 100 := by omega
        have HK2 : Hid (∀ x ∈ L.take (k + 1), x.2.2.length ≤ 100) := Lib.hid (fun x hx => by
          rw [List.take_add_one, HX.out] at hx
          rcases List.mem_append.1 hx with h | h
          · exact HK.out x h
          · simp at h
            subst h
            exact ht)
        go_wp2
        go_roundw
        case rel => exact ⟨k + 1, by omega, by go_num, HK2, by first | trivial | rfl⟩
        case measure => simp [intOf]; omega
      · have ht' : (100 : Int) < (t.length : Int) := by omega
        have hrf : r = false := by
          rw [← HR.out, decide_eq_false_iff_not]
          intro h
          exact ht (h.1 _ (List.mem_of_getElem? HX.out))
        subst hrf
        go_wp2
        go_ret
        exact ⟨rfl, rfl⟩
    · obtain rfl : k = L.length := by omega
      by_cases hl : L.length ≤ 40
      · have hl' : (L.length : Int) ≤ 40 := by omega
        have hrt : r = true := by
          rw [← HR.out, decide_eq_true_eq]
          exact ⟨by have := HK.out; rwa [List.take_length] at this, hl⟩
        subst hrt
        go_wp2
        go_ret
        exact ⟨by first | rfl | (simp; done) | (simp; omega), rfl⟩
      · have hl' : ¬ (L.length : Int) ≤ 40 := by omega
        have hrf : r = false := by
          rw [← HR.out, decide_eq_false_iff_not]
          intro h
          exact hl h.2
        subst hrf
        go_wp2
        go_ret
        exact ⟨by first | rfl | (simp; done) | (simp; omega), rfl⟩
/-- What a law's walk ends in. -/
def FYes (w : World) (e : Ending) (w' : World) : Prop := e = .returned (.bool true) ∧ Below w.heap.size w w'
theorem Wr.low {w0 w w1 : World} {g : Nat} {G : Foot} (hg : w0.heap.size ≤ g) (hG : ∀ b o, G b o → w0.heap.size ≤ b) (hf : Fr (wf g G) w w1) (hb : Below w0.heap.size w0 w) : Below w0.heap.size w0 w1 :=
  hb.trans (hf.below hb.size (fun b o h => h.elim (fun e => e ▸ hg) (hG b o)))
/-- A writer that was made since w0. -/
def WNew (w0 w : World) (g : Nat) (bs : List UInt8) : Prop := ∃ a c G, Wr w g G a c bs ∧ w0.heap.size ≤ g ∧ (∀ b o, G b o → w0.heap.size ≤ b) ∧ Below w0.heap.size w0 w
section
variable {w0 w w' : World} {g : Nat} {bs bs' : List UInt8}
theorem WNew.later (h : WNew w0 w g bs) (hb : Below w.heap.size w w') : WNew w0 w' g bs := by
  obtain ⟨a, c, G, h1, h2, h3, h4⟩ := h
  exact ⟨a, c, G, h1.later hb, h2, h3, h4.trans (hb.mono h4.size)⟩
theorem WNew.low (h : WNew w0 w g bs) : Below w0.heap.size w0 w := by
  obtain ⟨a, c, G, h1, h2, h3, h4⟩ := h
  exact h4
theorem WNew.writes {G : Foot} {a : Option Addr} {c : Nat} (h1 : Wr w g G a c bs) (h2 : w0.heap.size ≤ g) (h3 : ∀ b o, G b o → w0.heap.size ≤ b) (h4 : Below w0.heap.size w0 w) (h : Writes w g G bs' w') : WNew w0 w' g bs' := by
  obtain ⟨a', c', G', k1, k2, k3⟩ := h
  refine ⟨a', c', G', k1, h2, fun b o hb => ?_, Wr.low h2 h3 k2 h4⟩
  rcases k3 b o hb with h | h
  · exact h3 b o h
  · have := h4.size; omega
theorem WNew.made (hb : Below w0.heap.size w0 w) (t : TypeId) : WNew w0 (w.alloc (.cells #[.slice none 0 0] t)) w.heap.size [] :=
  ⟨none, 0, noCells, Wr.made w t, hb.size, fun _ _ h => h.elim, hb.trans ((al1' w _).mono hb.size)⟩
end
section
variable (w0 : World) (g : Nat) (bs : List UInt8)
theorem nUint (n : Nat) (hn : n < 9223372036854775808) (hb : bs.length ≤ 1000000) (w : World) (h : WNew w0 w g bs) :
    Calls Try.prog 24 #[.pointer (some ⟨g, 0, none⟩), .int .i64 n] w fun e w' => e = .returned (.int .i64 0) ∧ WNew w0 w' g (bs ++ Fd.grp n) := by
  obtain ⟨a, c, G, h1, h2, h3, h4⟩ := h
  exact (wUint_any g G a c bs n hn hb w h1).mono fun e w' ⟨e1, e2⟩ => ⟨e1, WNew.writes h1 h2 h3 h4 e2⟩
theorem nInt (v : Int) (hv : Fd.In v) (hb : bs.length ≤ 1000000) (w : World) (h : WNew w0 w g bs) :
    Calls Try.prog 27 #[.pointer (some ⟨g, 0, none⟩), .int .i64 v] w fun e w' => e = .returned (.int .i64 0) ∧ WNew w0 w' g (bs ++ Fd.grp (Fd.zig v)) := by
  obtain ⟨a, c, G, h1, h2, h3, h4⟩ := h
  exact (wInt_any g G a c bs v hv hb w h1).mono fun e w' ⟨e1, e2⟩ => ⟨e1, WNew.writes h1 h2 h3 h4 e2⟩
theorem nText (s : List UInt8) (hs : s.length ≤ 65536) (hb : bs.length ≤ 1000000) (w : World) (h : WNew w0 w g bs) :
    Calls Try.prog 29 #[.pointer (some ⟨g, 0, none⟩), .string ⟨s.toArray⟩] w fun e w' => e = .returned (.int .i64 0) ∧ WNew w0 w' g (bs ++ (Fd.grp s.length ++ s)) := by
  obtain ⟨a, c, G, h1, h2, h3, h4⟩ := h
  exact (wText_any g G a c bs s hs hb w h1).mono fun e w' ⟨e1, e2⟩ => ⟨e1, WNew.writes h1 h2 h3 h4 e2⟩
theorem nBytes (hb : bs.length ≤ 10000000) (w : World) (h : WNew w0 w g bs) :
    Calls Try.prog 30 #[.pointer (some ⟨g, 0, none⟩)] w fun e w' => GivesB w bs e w' := by
  obtain ⟨a, c, G, h1, _⟩ := h
  exact wBytes_any g G a c bs hb w h1
end
end Go.Proofs.Ytapjdcofnigjhaa
