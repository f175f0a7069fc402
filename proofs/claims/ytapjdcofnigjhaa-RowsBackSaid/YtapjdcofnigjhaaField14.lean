/- A writer beside a row of bytes of the law's own. -/
import Derived.Test.YtapjdcofnigjhaaField12
namespace Go.Proofs.Ytapjdcofnigjhaa
open Go.RowKit
/-- A writer (block g, bytes bs), and a slice (ws), both made since w0, apart. -/
def WW (w0 w : World) (g : Nat) (bs : List UInt8) (aw : Option Addr) (cw : Nat) (ws : List UInt8) : Prop :=
  ∃ a c G F, Wr w g G a c bs ∧ Sl w 1 F aw ws.length cw (bytesV ws) ∧ Lies w F ∧ Apart F (wf g G) ∧ w0.heap.size ≤ g ∧ (∀ b o, G b o → w0.heap.size ≤ b) ∧ (∀ b o, F b o → w0.heap.size ≤ b) ∧ Below w0.heap.size w0 w
theorem Wr.lies2 {w : World} {g : Nat} {G : Foot} {a : Option Addr} {c : Nat} {bs : List UInt8} (h : Wr w g G a c bs) : Lies w (wf g G) := fun b o hb => by
  rcases hb with e | hb
  · subst e; exact block_of_cell h.cell
  · exact h.lies b o hb
section
variable {w0 w w' : World} {g : Nat} {bs bs' : List UInt8} {aw : Option Addr} {cw : Nat} {ws : List UInt8}
theorem WW.low (h : WW w0 w g bs aw cw ws) : Below w0.heap.size w0 w := by
  obtain ⟨a, c, G, F, h1, h2, h3, h4, h5, h6, h7, h8⟩ := h
  exact h8
theorem WW.rd (h : WW w0 w g bs aw cw ws) : RdB w aw cw ws := by
  obtain ⟨a, c, G, F, h1, h2, _⟩ := h
  exact h2.rd
theorem WW.later (h : WW w0 w g bs aw cw ws) (hb : Below w.heap.size w w') : WW w0 w' g bs aw cw ws := by
  obtain ⟨a, c, G, F, h1, h2, h3, h4, h5, h6, h7, h8⟩ := h
  exact ⟨a, c, G, F, h1.later hb, h2.fr (Fr.ofBelow hb noCells) (fun _ _ _ h => h), h3.later (Fr.ofBelow hb noCells), h4, h5, h6, h7, h8.trans (hb.mono h8.size)⟩
theorem WW.start (h : WNew w0 w g bs) : WW w0 w g bs none 0 [] := by
  obtain ⟨a, c, G, h1, h2, h3, h4⟩ := h
  exact ⟨a, c, G, noCells, h1, Sl.none_ w 1, fun _ _ h => h.elim, fun _ _ h => h.elim, h2, h3, fun _ _ h => h.elim, h4⟩
theorem WW.new (h : WW w0 w g bs aw cw ws) : WNew w0 w g bs := by
  obtain ⟨a, c, G, F, h1, h2, h3, h4, h5, h6, h7, h8⟩ := h
  exact ⟨a, c, G, h1, h5, h6, h8⟩
theorem WW.writes {a : Option Addr} {c : Nat} {G F : Foot} (h1 : Wr w g G a c bs) (h2 : Sl w 1 F aw ws.length cw (bytesV ws)) (h3 : Lies w F) (h4 : Apart F (wf g G)) (h5 : w0.heap.size ≤ g) (h6 : ∀ b o, G b o → w0.heap.size ≤ b) (h7 : ∀ b o, F b o → w0.heap.size ≤ b) (h8 : Below w0.heap.size w0 w)
    (h : Writes w g G bs' w') : WW w0 w' g bs' aw cw ws := by
  obtain ⟨a', c', G', k1, k2, k3⟩ := h
  refine ⟨a', c', G', F, k1, h2.fr k2 h4, h3.later k2, fun b o hF hw => ?_, h5, fun b o hb => ?_, h7, Wr.low h5 h6 k2 h8⟩
  · rcases hw with e | hw
    · exact h4 b o hF (.inl e)
    · rcases k3 b o hw with h | h
      · exact h4 b o hF (.inr h)
      · have := h3 b o hF; omega
  · rcases k3 b o hb with h | h
    · exact h6 b o h
    · have := h8.size; omega
end
section
variable (w0 : World) (g : Nat) (bs : List UInt8) (aw : Option Addr) (cw : Nat) (ws : List UInt8)
theorem wwUint (n : Nat) (hn : n < 9223372036854775808) (hb : bs.length ≤ 1000000) (w : World) (h : WW w0 w g bs aw cw ws) :
    Calls Try.prog 24 #[.pointer (some ⟨g, 0, none⟩), .int .i64 n] w fun e w' => e = .returned (.int .i64 0) ∧ WW w0 w' g (bs ++ Fd.grp n) aw cw ws := by
  obtain ⟨a, c, G, F, h1, h2, h3, h4, h5, h6, h7, h8⟩ := h
  exact (wUint_any g G a c bs n hn hb w h1).mono fun e w' ⟨e1, e2⟩ => ⟨e1, WW.writes h1 h2 h3 h4 h5 h6 h7 h8 e2⟩
theorem wwInt (v : Int) (hv : Fd.In v) (hb : bs.length ≤ 1000000) (w : World) (h : WW w0 w g bs aw cw ws) :
    Calls Try.prog 27 #[.pointer (some ⟨g, 0, none⟩), .int .i64 v] w fun e w' => e = .returned (.int .i64 0) ∧ WW w0 w' g (bs ++ Fd.grp (Fd.zig v)) aw cw ws := by
  obtain ⟨a, c, G, F, h1, h2, h3, h4, h5, h6, h7, h8⟩ := h
  exact (wInt_any g G a c bs v hv hb w h1).mono fun e w' ⟨e1, e2⟩ => ⟨e1, WW.writes h1 h2 h3 h4 h5 h6 h7 h8 e2⟩
theorem wwText (s : List UInt8) (hs : s.length ≤ 65536) (hb : bs.length ≤ 1000000) (w : World) (h : WW w0 w g bs aw cw ws) :
    Calls Try.prog 29 #[.pointer (some ⟨g, 0, none⟩), .string ⟨s.toArray⟩] w fun e w' => e = .returned (.int .i64 0) ∧ WW w0 w' g (bs ++ (Fd.grp s.length ++ s)) aw cw ws := by
  obtain ⟨a, c, G, F, h1, h2, h3, h4, h5, h6, h7, h8⟩ := h
  exact (wText_any g G a c bs s hs hb w h1).mono fun e w' ⟨e1, e2⟩ => ⟨e1, WW.writes h1 h2 h3 h4 h5 h6 h7 h8 e2⟩
end
theorem wpList_app_ww {P : Program} {w : World} {ops : Array Oper} {rest : List Oper} {o : Oper} {a : Act} {Q : Exit → Act → World → Prop} (hgd : o.guard = none) (s x : Operand) (t : TypeId)
    (ho : o.op = .call { callee := .builtin .append, args := #[s, x], argTypes := #[t, t] })
    (e : TypeId) (i : TypeInfo) (ht : P.underlying t = some (.slice e)) (hi : P.info? e = some i) (hz : i.zero = some (.int .u8 0)) (hsize : i.size = 1) (hby : i.bytes = 1)
    (w0 : World) (g : Nat) (bs : List UInt8) (aw : Option Addr) (cw : Nat) (ws : List UInt8) (hs : a.eval s = .slice aw ws.length cw) (h : WW w0 w g bs aw cw ws)
    (a2 : Option Addr) (c2 : Nat) (cs : List UInt8) (hx : a.eval x = .slice a2 cs.length c2) (hr : RdB w a2 c2 cs) (N : Nat) (hN : ws.length + cs.length = N) (hb : N < 1000000000)
    (hk : ∀ a' c' w', WW w0 w' g bs a' c' (ws ++ cs) → wpList P ops Q rest (a.put o.dst (.slice a' N c')) w') : wpList P ops Q (o :: rest) a w := by
  obtain ⟨a1, c1, G, F, h1, h2, h3, h4, h5, h6, h7, h8⟩ := h
  refine wpList_app_sl hgd s x t ho e i (.int .u8 0) 1 1 ht hi hz hsize hby rfl (by decide) F aw ws.length cw (bytesV ws) hs h2 h3 a2 cs.length c2 (bytesV cs) hx hr N (bytesV (ws ++ cs)) hN (bytesV_append ws cs).symm (by unfold maxLen; omega) (by omega) fun a' c' w' F' k1 k2 k3 k4 => hk a' c' w' ⟨a1, c1, G, F', h1.fr k2 h4.symm, by rw [List.length_append, hN]; exact k1, k4, fun b o hF hw => ?_, h5, h6, fun b o hb => ?_, h8.trans (k2.below h8.size h7)⟩
  · rcases k3 b o hF with h | h
    · exact h4 b o h hw
    · have := h1.lies2 b o hw; omega
  · rcases k3 b o hb with h | h
    · exact h7 b o h
    · have := h8.size; omega
end Go.Proofs.Ytapjdcofnigjhaa
