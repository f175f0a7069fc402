/- Rows that a call owns, several at a time: laws beside the kit's. Over any program. -/
import Derived.Test.YtgoegdlhbadlfaaDoorKit
import Derived.Laws.OwnMore
namespace Go.Proofs.YtgoegdlhbadlfaaDoor
open Go.RowKit

/-- A row that is owned from a later block on is owned from an earlier one on. -/
theorem own_up {w : World} {B B' : Nat} {e : TypeId} {size : Nat} {v : Value} {n : Nat} {xs : List Value} (h : w.ownsRow B' e size v n xs) (hB : B ≤ B') : w.ownsRow B e size v n xs := by
  obtain ⟨hl, hv⟩ := h
  refine ⟨hl, hv.imp id ?_⟩
  rintro ⟨g, cap, cur, rfl, hg, r⟩
  exact ⟨g, cap, cur, rfl, Nat.le_trans hB hg, r⟩
/-- Two rows of other elements lie in other blocks. -/
theorem own_types {w : World} {B1 B2 : Nat} {e1 e2 : TypeId} {s1 s2 : Nat} {v1 v2 : Value} {n1 n2 : Nat} {xs1 xs2 : List Value} (h1 : w.ownsRow B1 e1 s1 v1 n1 xs1) (h2 : w.ownsRow B2 e2 s2 v2 n2 xs2) (he : e1 ≠ e2) : v1.ownBlock = none ∨ v1.ownBlock ≠ v2.ownBlock := by
  rcases h1.2 with ⟨rfl, _⟩ | ⟨g, cap, cur, rfl, _, hh, _⟩
  · exact .inl rfl
  · rcases h2.2 with ⟨rfl, _⟩ | ⟨g2, cap2, cur2, rfl, _, hh2, _⟩
    · exact .inr (by simp [Value.ownBlock])
    · refine .inr fun h => ?_
      simp only [Value.ownBlock, Option.some.injEq] at h
      subst h
      rw [hh] at hh2
      simp only [Option.some.injEq, Obj.cells.injEq] at hh2
      exact he hh2.2.1
/-- A row below a block number, and one from there on. -/
theorem own_low {w : World} {B1 B2 : Nat} {e1 e2 : TypeId} {s1 s2 : Nat} {v1 v2 : Value} {n1 n2 : Nat} {xs1 xs2 : List Value} {w0 : World} (h1 : w0.ownsRow B1 e1 s1 v1 n1 xs1) (hB : w0.heap.size ≤ B2) (h2 : w.ownsRow B2 e2 s2 v2 n2 xs2) : v1.ownBlock = none ∨ v1.ownBlock ≠ v2.ownBlock := by
  cases h : v1.ownBlock with
  | none => exact .inl rfl
  | some k =>
    refine .inr fun e => ?_
    have := (h1.lt k h).2
    have := (h2.lt k e.symm).1
    omega
theorem own_low' {w : World} {B1 B2 : Nat} {e1 e2 : TypeId} {s1 s2 : Nat} {v1 v2 : Value} {n1 n2 : Nat} {xs1 xs2 : List Value} {w0 : World} (h1 : w0.ownsRow B1 e1 s1 v1 n1 xs1) (hB : w0.heap.size ≤ B2) (h2 : w.ownsRow B2 e2 s2 v2 n2 xs2) : v2.ownBlock = none ∨ v2.ownBlock ≠ v1.ownBlock := by
  rcases own_low h1 hB h2 with h | h
  · rw [h]
    cases h' : v2.ownBlock with
    | none => exact .inl rfl
    | some k => exact .inr (by simp)
  · exact .inr (Ne.symm h)
/-- What is read stays behind a growing row that lies elsewhere. -/
theorem Rd.grown {w w' : World} {size : Nat} {a : Option Addr} {n c : Nat} {vs : List Value} (h : Rd w size a n c vs) {row : Option Nat} (hg : w.grownBy w' row) (hr : ∀ x, a = some x → some x.block ≠ row) : Rd w' size a n c vs := by
  refine ⟨h.len, h.le, h.cap, h.nil, fun x hx i u hu => ?_, h.one⟩
  have h1 := h.cell x hx i u hu
  have hlt := block_of_cell h1
  rw [addr_add_block] at hlt
  rw [World.cell?_of_block (hg.block _ (by rw [addr_add_block]; exact hlt) (by rw [addr_add_block]; exact hr x hx))]
  exact h1
theorem Rd.row {w : World} {B : Nat} {e : TypeId} {size : Nat} {a : Option Addr} {n c : Nat} {xs : List Value} (h : w.ownsRow B e size (.slice a n c) n xs) (h1 : ∀ u ∈ xs, u.oneCell' = true) : Rd w size a n c xs := by
  obtain ⟨a', c', h2, h3, _⟩ := Rd.ofOwn h h1
  simp only [Value.slice.injEq, true_and] at h2
  obtain ⟨rfl, rfl⟩ := h2
  exact h3
/-- 's[m:]', its address under a name. -/
theorem from_ex {P : Program} {w : World} (t : TypeId) (ht : P.underlying t = some (.slice (P.elem t))) (size : Nat) (hs : ∀ w : World, (sizeOf (P.elem t)).run P w = .ok size w) {a : Option Addr} {n c : Nat} {vs : List Value} (_h : Rd w size a n c vs) (k : IntKind) (m : Nat) (hm : m ≤ n) :
    ∃ a', (∀ W : World, (Instr.slice t (.slice a n c) (some (.int k (m : Int))) none none).run P W = .ok (.slice a' (n - m) (c - m)) W) ∧ ∀ W : World, Rd W size a n c vs → Rd W size a' (n - m) (c - m) (vs.drop (m * size)) :=
  ⟨_, fun W => run_slice_from t ht size hs a n c k (m : Int) m rfl hm W, fun _ h => h.from m hm⟩
theorem to_ex {P : Program} (t : TypeId) (ht : P.underlying t = some (.slice (P.elem t))) (size : Nat) (hs : ∀ w : World, (sizeOf (P.elem t)).run P w = .ok size w) (a : Option Addr) (n c : Nat) (k : IntKind) (m : Nat) (hc : m ≤ c) :
    ∀ W : World, (Instr.slice t (.slice a n c) none (some (.int k (m : Int))) none).run P W = .ok (.slice a m c) W := fun W => run_slice_to t ht size hs a n c k (m : Int) m rfl hc W
/-- 'Below' over a growth of a row from there on. -/
theorem below_row {B : Nat} {w0 w w' : World} {e : TypeId} {size : Nat} {v : Value} {n : Nat} {xs : List Value} (hb : Below B w0 w) {B' : Nat} (hB : B ≤ B') (h : w.ownsRow B' e size v n xs) (hg : w.grownBy w' v.ownBlock) (hBw : B ≤ w.heap.size) : Below B w0 w' :=
  hb.grown hg hBw (fun k hk => Nat.le_trans hB (h.lt k hk).1)
/-- Two new cells, as a slice that is appended. -/
theorem Rd.twoNew (w : World) (u v : Value) (t : TypeId) (h1 : u.oneCell' = true) (h2 : v.oneCell' = true) : Rd (w.alloc (.cells #[u, v] t)) 2 (some ⟨w.heap.size, 0, none⟩) 1 1 [u, v] :=
  Rd.made w [u, v] t 2 1 rfl (by decide) (fun x hx => by
    simp only [List.mem_cons, List.not_mem_nil, or_false] at hx
    rcases hx with rfl | rfl <;> assumption) (0, 0)
theorem Rd.oneNew' (w : World) (u : Value) (t : TypeId) (h1 : u.oneCell' = true) : Rd (w.alloc (.cells #[u] t)) 1 (some ⟨w.heap.size, 0, none⟩) 1 1 [u] := Rd.oneNew w u t h1
/-- 'wpList_app', the sum and the row under names of one's own. -/
theorem wpList_appN {P : Program} {w : World} {ops : Array Oper} {rest : List Oper} {o : Oper} {a : Act} {Q : Exit → Act → World → Prop} (hgd : o.guard = none) (s x : Operand) (t : TypeId)
    (ho : o.op = .call { callee := .builtin .append, args := #[s, x], argTypes := #[t, t] })
    (base : Nat) (e : TypeId) (i : TypeInfo) (z : Value) (size bytes : Nat) (ht : P.underlying t = some (.slice e)) (hi : P.info? e = some i) (hz : i.zero = some z)
    (hsize : i.size = size) (hby : i.bytes = bytes) (hzs : z.cells.size = size) (hsz : 0 < size)
    (a1 : Option Addr) (n c : Nat) (xs : List Value) (hs : a.eval s = .slice a1 n c) (hown : w.ownsRow base e size (.slice a1 n c) n xs)
    (a2 : Option Addr) (m c2 : Nat) (news : List Value) (hx : a.eval x = .slice a2 m c2) (hr : Rd w size a2 m c2 news)
    (N : Nat) (ys : List Value) (hN : n + m = N) (hys : xs ++ news = ys)
    (h63 : N ≤ maxLen) (hbytes : N * bytes ≤ 140737488355328) (hbase : base ≤ w.heap.size)
    (h : ∀ a' c' w', w'.ownsRow base e size (.slice a' N c') N ys → w.grownBy w' (Value.slice a1 n c).ownBlock → wpList P ops Q rest (a.put o.dst (.slice a' N c')) w') : wpList P ops Q (o :: rest) a w := by
  subst hN
  subst hys
  exact wpList_app hgd s x t ho base e i z size bytes ht hi hz hsize hby hzs hsz a1 n c xs hs hown a2 m c2 news hx hr h63 hbytes hbase h
end Go.Proofs.YtgoegdlhbadlfaaDoor
