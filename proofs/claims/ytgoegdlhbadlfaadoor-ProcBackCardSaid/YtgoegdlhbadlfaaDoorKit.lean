/- What a slice value reads as ('Rd'), in a world that grows: laws that every walk of these seats uses. Over any program. -/
import Derived.WalkKit
import Derived.ProofKit
import Derived.OpenShut
import Derived.ShutString
import Derived.Below
import Derived.WalkSmall
import Derived.Lib.Hide
import Derived.Laws.AppendOwnNone
namespace Go.Proofs.YtgoegdlhbadlfaaDoor
open Go.RowKit

/-- A slice of n elements of 'size' cells each, c of capacity: its cells hold 'vs'. -/
structure Rd (w : World) (size : Nat) (a : Option Addr) (n c : Nat) (vs : List Value) : Prop where
  len : vs.length = n * size
  le : n ≤ c
  cap : c ≤ maxLen
  nil : a = none → c = 0
  cell : ∀ x, a = some x → ∀ i u, vs[i]? = some u → w.cell? (x.add i) = some u
  one : ∀ u ∈ vs, u.oneCell' = true

theorem block_of_cell {w : World} {x : Addr} {u : Value} (h : w.cell? x = some u) : x.block < w.heap.size := World.block_lt_of_cell? w x h

theorem addr_add_block (x : Addr) (i : Nat) : (x.add i).block = x.block := by unfold Addr.add; split <;> rfl

theorem addr_add_add (x : Addr) (i j : Nat) : (x.add i).add j = x.add (i + j) := by
  unfold Addr.add
  by_cases hi : i = 0 <;> by_cases hj : j = 0 <;> simp [hi, hj, Nat.add_assoc]

theorem Rd.below {w w' : World} {size : Nat} {a : Option Addr} {n c : Nat} {vs : List Value} (h : Rd w size a n c vs) {B : Nat} (hb : Below B w w') (hB : ∀ x, a = some x → vs ≠ [] → x.block < B) : Rd w' size a n c vs := by
  refine ⟨h.len, h.le, h.cap, h.nil, fun x hx i u hu => ?_, h.one⟩
  have hne : vs ≠ [] := by rintro rfl; simp at hu
  rw [hb.cell (p := x.add i) (by rw [addr_add_block]; exact hB x hx hne)]
  exact h.cell x hx i u hu

theorem Rd.lt {w : World} {size : Nat} {a : Option Addr} {n c : Nat} {vs : List Value} (h : Rd w size a n c vs) : ∀ x, a = some x → vs ≠ [] → x.block < w.heap.size := by
  intro x hx hne
  match vs, hne with
  | u :: us, _ =>
    have := h.cell x hx 0 u rfl
    have := block_of_cell this
    rwa [addr_add_block] at this

/-- In every later world that keeps what there was. -/
theorem Rd.later {w w' : World} {size : Nat} {a : Option Addr} {n c : Nat} {vs : List Value} (h : Rd w size a n c vs) (hb : Below w.heap.size w w') : Rd w' size a n c vs := h.below hb h.lt

theorem Rd.nilSlice (w : World) (size : Nat) : Rd w size none 0 0 [] :=
  ⟨by simp, Nat.le_refl _, Nat.zero_le _, fun _ => rfl, (fun _ h => by cases h), (fun _ h => by cases h)⟩

/-- Where there is an element the address is a plain one. -/
theorem Rd.addr {w : World} {size : Nat} {a : Option Addr} {n c : Nat} {vs : List Value} (h : Rd w size a n c vs) (hne : vs ≠ []) :
    ∃ b o, a = some ⟨b, o, none⟩ ∧ ∀ i u, vs[i]? = some u → w.cell? ⟨b, o + i, none⟩ = some u := by
  match vs, hne with
  | u :: us, _ =>
    cases a with
    | none =>
      have h1 := h.nil rfl
      have h2 := h.le
      have h3 := h.len
      have : n = 0 := by omega
      subst this
      simp at h3
    | some x =>
      have hc := h.cell x rfl 0 u rfl
      obtain ⟨b, o, s⟩ := x
      have hs : s = none := by
        have h' := World.cell?_spot hc
        simpa [Addr.add] using h'
      subst hs
      refine ⟨b, o, rfl, fun i u hu => ?_⟩
      have := h.cell _ rfl i u hu
      rwa [Addr.add_lit] at this

theorem Rd.ofOwn {w : World} {base : Nat} {e : TypeId} {size : Nat} {v : Value} {n : Nat} {xs : List Value} (h : w.ownsRow base e size v n xs) (h1 : ∀ u ∈ xs, u.oneCell' = true) :
    ∃ a c, v = .slice a n c ∧ Rd w size a n c xs ∧ (∀ x, a = some x → base ≤ x.block) := by
  obtain ⟨hl, hv⟩ := h
  rcases hv with ⟨rfl, rfl⟩ | ⟨g, cap, cur, rfl, hg, hh, hn, hc, hs, ht⟩
  · have : xs = [] := List.eq_nil_of_length_eq_zero (by simpa using hl)
    subst this
    exact ⟨none, 0, rfl, Rd.nilSlice w size, (fun _ h => by cases h)⟩
  · refine ⟨some ⟨g, 0, none⟩, cap, rfl, ⟨hl, hn, hc, fun h => (by cases h), fun x hx i u hu => ?_, h1⟩, fun x hx => (by cases hx; exact hg)⟩
    cases hx
    exact World.ownsRow.cells (w := w) (base := base) (e := e) (size := size) (v := .slice (some ⟨g, 0, none⟩) n cap) ⟨hl, .inr ⟨g, cap, cur, rfl, hg, hh, hn, hc, hs, ht⟩⟩ (g := g) rfl i u hu

/-- A cut of a slice: as the walk spells its address. -/
theorem Rd.cut {w : World} {size : Nat} {a : Option Addr} {n c : Nat} {vs : List Value} (h : Rd w size a n c vs) (l m : Nat) (hlm : l ≤ m) (hm : m ≤ n) {a' : Option Addr}
    (ha : ¬ c = l → ∀ x, a = some x → a' = some (x.add (l * size))) (ha0 : a' = none → a = none) :
    Rd w size a' (m - l) (c - l) ((vs.drop (l * size)).take ((m - l) * size)) := by
  have hle := h.le
  have e1 : m * size ≤ n * size := Nat.mul_le_mul_right _ hm
  have e2 : l * size ≤ m * size := Nat.mul_le_mul_right _ hlm
  have e3 : (m - l) * size = m * size - l * size := Nat.sub_mul _ _ _
  refine ⟨?_, by omega, by have := h.cap; omega, fun h0 => ?_, fun x hx i u hu => ?_, fun u hu => h.one u (List.mem_of_mem_drop (List.mem_of_mem_take hu))⟩
  · rw [List.length_take, List.length_drop, h.len]; omega
  · have := h.nil (ha0 h0); omega
  · have hi : i < (m - l) * size := by
      have := (List.getElem?_eq_some_iff.1 hu).1
      rw [List.length_take] at this
      omega
    rw [List.getElem?_take_of_lt hi, List.getElem?_drop] at hu
    have hcl : ¬ c = l := by
      intro hc
      have : m - l = 0 := by omega
      rw [this] at hi; omega
    cases a with
    | none =>
      have := h.nil rfl
      omega
    | some y =>
      have hy := ha hcl y rfl
      rw [hx] at hy
      obtain rfl := Option.some.inj hy
      have := h.cell y rfl (l * size + i) u hu
      rw [addr_add_add]
      exact this

/-- Bytes, as cells. -/
def bytesV (bs : List UInt8) : List Value := bs.map fun b => Value.int .u8 b.toNat
theorem bytesV_one (bs : List UInt8) : ∀ u ∈ bytesV bs, u.oneCell' = true := by
  intro u hu
  obtain ⟨_, _, rfl⟩ := List.mem_map.1 hu
  rfl
theorem bytesV_length (bs : List UInt8) : (bytesV bs).length = bs.length := by simp [bytesV]
theorem bytesV_get {bs : List UInt8} {i : Nat} {x : UInt8} (h : bs[i]? = some x) : (bytesV bs)[i]? = some (.int .u8 x.toNat) := by simp [bytesV, h]
theorem bytesV_append (a b : List UInt8) : bytesV (a ++ b) = bytesV a ++ bytesV b := by simp [bytesV]
theorem bytesV_take (a : List UInt8) (n : Nat) : (bytesV a).take n = bytesV (a.take n) := by simp [bytesV]
theorem bytesV_drop (a : List UInt8) (n : Nat) : (bytesV a).drop n = bytesV (a.drop n) := by simp [bytesV]
theorem bytesV_ne {bs : List UInt8} (h : bs ≠ []) : bytesV bs ≠ [] := by simpa [bytesV] using h

/-- A slice of bytes. -/
abbrev RdB (w : World) (a : Option Addr) (c : Nat) (bs : List UInt8) : Prop := Rd w 1 a bs.length c (bytesV bs)
theorem RdB.later {w w' : World} {a : Option Addr} {c : Nat} {bs : List UInt8} (h : RdB w a c bs) (hb : Below w.heap.size w w') : RdB w' a c bs := Rd.later h hb
theorem RdB.addr {w : World} {a : Option Addr} {c : Nat} {bs : List UInt8} (h : RdB w a c bs) (hne : bs ≠ []) :
    ∃ b o, a = some ⟨b, o, none⟩ ∧ ∀ i x, bs[i]? = some x → w.cell? ⟨b, o + i, none⟩ = some (.int .u8 x.toNat) := by
  obtain ⟨b, o, h1, h2⟩ := Rd.addr h (bytesV_ne hne)
  exact ⟨b, o, h1, fun i x hx => h2 i _ (bytesV_get hx)⟩
theorem RdB.at {w : World} {a : Option Addr} {c : Nat} {bs : List UInt8} (h : RdB w a c bs) :
    ∀ k x, bs[k]? = some x → ∃ b o, a = some ⟨b, o, none⟩ ∧ w.cell? ⟨b, o + k, none⟩ = some (.int .u8 x.toNat) := by
  intro k x hx
  obtain ⟨b, o, h1, h2⟩ := h.addr (by rintro rfl; simp at hx)
  exact ⟨b, o, h1, h2 k x hx⟩
theorem RdB.le {w : World} {a : Option Addr} {c : Nat} {bs : List UInt8} (h : RdB w a c bs) : bs.length ≤ c ∧ c ≤ maxLen := ⟨Rd.le h, Rd.cap h⟩

/-- What came in as a slice of bytes. -/
theorem RdB.ofInts {w : World} {a : Option Addr} {len cap : Nat} {zs : List Int}
    (h : (a = none ∧ len = 0 ∧ cap = 0 ∧ zs = []) ∨ ∃ x, a = some x ∧ len ≤ cap ∧ cap ≤ maxLen ∧ zs.length = cap ∧ (∀ i, i < zs.length → w.cell? (x.add i) = some (.int .u8 (zs.getD i 0))) ∧ ∀ n ∈ zs, (Lit.int .u8 n).wf = true) :
    ∃ bs : List UInt8, len = bs.length ∧ RdB w a cap bs := by
  rcases h with ⟨rfl, rfl, rfl, _⟩ | ⟨x, rfl, hl, hm, hz, hc, hw⟩
  · exact ⟨[], rfl, Rd.nilSlice w 1⟩
  · refine ⟨(zs.take len).map fun z => UInt8.ofNat z.toNat, by simp; omega, ⟨by simp [bytesV], by simp; omega, hm, fun h => (by cases h), fun y hy i u hu => ?_, bytesV_one _⟩⟩
    cases hy
    simp only [bytesV, List.map_map, List.getElem?_map, Option.map_eq_some_iff] at hu
    obtain ⟨z, hz', rfl⟩ := hu
    have hi : i < len := by
      have := (List.getElem?_eq_some_iff.1 hz').1
      rw [List.length_take] at this
      omega
    rw [List.getElem?_take_of_lt hi] at hz'
    have hi2 := (List.getElem?_eq_some_iff.1 hz').1
    have hmem : z ∈ zs := List.mem_of_getElem? hz'
    have hwf := hw z hmem
    have hbd : 0 ≤ z ∧ z ≤ 255 := by
      simp [Lit.wf, IntKind.min, IntKind.max, IntKind.signed, IntKind.bits] at hwf
      omega
    rw [hc i hi2, List.getD_eq_getElem?_getD, hz']
    simp only [Option.getD_some, Function.comp]
    congr 2
    rw [UInt8.toNat_ofNat', Nat.mod_eq_of_lt (by omega)]
    omega

/-- Old cells and marks behind a call, as rules. -/
theorem bcell {W w1 : World} (hb : Below W.heap.size W w1) : (∀ b o, b < W.heap.size → w1.cell? ⟨b, o, none⟩ = W.cell? ⟨b, o, none⟩) ∧ (∀ b o, b < W.heap.size → w1.frozen? ⟨b, o, none⟩ = W.frozen? ⟨b, o, none⟩) :=
  ⟨fun b o h => hb.cell (p := ⟨b, o, none⟩) h, fun b o h => hb.frozen (p := ⟨b, o, none⟩) h⟩

/-- APPEND onto a row of the call's own, WHATEVER SLICE IS APPENDED. -/
theorem run_app {P : Program} {w : World} (base : Nat) (t ty e : TypeId) (i : TypeInfo) (z : Value) (size bytes : Nat) (ht : P.underlying t = some (.slice e)) (hi : P.info? e = some i) (hz : i.zero = some z)
    (hsize : i.size = size) (hby : i.bytes = bytes) (hzs : z.cells.size = size) (hsz : 0 < size)
    (a : Option Addr) (n c : Nat) (xs : List Value) (hown : w.ownsRow base e size (.slice a n c) n xs)
    (a2 : Option Addr) (m c2 : Nat) (news : List Value) (hs : Rd w size a2 m c2 news)
    (h63 : n + m ≤ maxLen) (hbytes : (n + m) * bytes ≤ 140737488355328) (hbase : base ≤ w.heap.size) :
    ∃ a' c' w', (Builtin.append_ #[t, t] ty #[.slice a n c, .slice a2 m c2]).run P w = .ok (.slice a' (n + m) c') w' ∧ w'.ownsRow base e size (.slice a' (n + m) c') (n + m) (xs ++ news) ∧ w.grownBy w' (Value.slice a n c).ownBlock := by
  cases a2 with
  | some ad =>
    obtain ⟨v', w', hr, h2, h3, _⟩ := run_append_own (P := P) w base t ty e i z size bytes ht hi hz hsize hby hzs hsz _ n xs hown ad m c2 news hs.len (hs.cell ad rfl) hs.one h63 hbytes hbase
    rcases h2.2 with ⟨rfl, h0⟩ | ⟨g, cap, cur, rfl, _⟩
    · rw [h0] at h2 ⊢; exact ⟨_, _, _, by rw [h0] at *; exact hr, h2, h3⟩
    · exact ⟨_, _, _, hr, h2, h3⟩
  | none =>
    have hc := hs.nil rfl
    have hm : m = 0 := by have := hs.le; omega
    subst hc; subst hm
    have hn : news = [] := List.eq_nil_of_length_eq_zero (by simpa using hs.len)
    subst hn
    have hrun := run_append_owned_none (P := P) (w := w) base t ty e i size ht hi _ n xs hown
    exact ⟨_, _, _, hrun, by simpa using hown, World.grownBy.refl _ _⟩

/-- .. in the walk's form. -/
theorem wpList_app {P : Program} {w : World} {ops : Array Oper} {rest : List Oper} {o : Oper} {a : Act} {Q : Exit → Act → World → Prop} (hgd : o.guard = none) (s x : Operand) (t : TypeId)
    (ho : o.op = .call { callee := .builtin .append, args := #[s, x], argTypes := #[t, t] })
    (base : Nat) (e : TypeId) (i : TypeInfo) (z : Value) (size bytes : Nat) (ht : P.underlying t = some (.slice e)) (hi : P.info? e = some i) (hz : i.zero = some z)
    (hsize : i.size = size) (hby : i.bytes = bytes) (hzs : z.cells.size = size) (hsz : 0 < size)
    (a1 : Option Addr) (n c : Nat) (xs : List Value) (hs : a.eval s = .slice a1 n c) (hown : w.ownsRow base e size (.slice a1 n c) n xs)
    (a2 : Option Addr) (m c2 : Nat) (news : List Value) (hx : a.eval x = .slice a2 m c2) (hr : Rd w size a2 m c2 news)
    (h63 : n + m ≤ maxLen) (hbytes : (n + m) * bytes ≤ 140737488355328) (hbase : base ≤ w.heap.size)
    (h : ∀ a' c' w', w'.ownsRow base e size (.slice a' (n + m) c') (n + m) (xs ++ news) → w.grownBy w' (Value.slice a1 n c).ownBlock → wpList P ops Q rest (a.put o.dst (.slice a' (n + m) c')) w') : wpList P ops Q (o :: rest) a w := by
  refine wpList_plain hgd fun K hK => ?_
  obtain ⟨a', c', w', hrun, h2, h3⟩ := run_app (P := P) base t o.type e i z size bytes ht hi hz hsize hby hzs hsz a1 n c xs hown a2 m c2 news hr h63 hbytes hbase
  unfold Oper.wp
  simp [execOp, ho, resolve, invoke, builtin, hs, hx, hrun, Result.andThen]
  exact hK _ _ (h _ _ _ h2 h3)

/-- One new cell, as a slice that is appended. -/
theorem Rd.oneNew (w : World) (u : Value) (t : TypeId) (h1 : u.oneCell' = true) : Rd (w.alloc (.cells #[u] t)) 1 (some ⟨w.heap.size, 0, none⟩) 1 1 [u] :=
  ⟨rfl, Nat.le_refl _, by decide, (fun h => by cases h), (fun x hx i v hv => by
    cases hx
    match i, hv with
    | 0, hv => simp at hv; subst hv; simp [Addr.add]
    | i + 1, hv => simp at hv), (fun v hv => by simp at hv; subst hv; exact h1)⟩

/-- A new block, read as a slice. -/
theorem Rd.made (w : World) (vs : List Value) (t : TypeId) (size n : Nat) (hl : vs.length = n * size) (hn : n ≤ maxLen) (h1 : ∀ u ∈ vs, u.oneCell' = true) (fr : Nat × Nat) :
    Rd (w.alloc (.cells vs.toArray t fr)) size (some ⟨w.heap.size, 0, none⟩) n n vs := by
  refine ⟨hl, Nat.le_refl _, hn, (fun h => by cases h), (fun x hx i u hu => ?_), h1⟩
  cases hx
  rw [Addr.add_lit, Nat.zero_add, cell_of_row _ w.heap.size i _ t fr (heap_alloc_new w _)]
  simpa using hu

/-- What a call hands back: a slice of these bytes; nothing that was there has turned. -/
def GivesB (w : World) (bs : List UInt8) (e : Ending) (w' : World) : Prop := ∃ a c, e = .returned (.slice a bs.length c) ∧ RdB w' a c bs ∧ Below w.heap.size w w'

theorem i64_and255 (n : Int) : bits .and .i64 n 255 = n % 256 := by
  have h255 : (BitVec.ofInt 64 255).toNat = 2 ^ 8 - 1 := by decide
  have key : (BitVec.ofInt 64 n &&& BitVec.ofInt 64 255).toNat = (n % ((2 ^ 64 : Nat) : Int)).toNat % 2 ^ 8 := by
    rw [BitVec.toNat_and, BitVec.toNat_ofInt, h255, Nat.and_two_pow_sub_one_eq_mod]
  show IntKind.i64.wrap ((BitVec.ofInt 64 n &&& BitVec.ofInt 64 255).toNat : Nat) = n % 256
  rw [key, IntKind.wrap_i64]
  omega

/-- 's[:h]': the address stays. -/
theorem run_slice_to {P : Program} (t : TypeId) (ht : P.underlying t = some (.slice (P.elem t))) (size : Nat) (hs : ∀ w : World, (sizeOf (P.elem t)).run P w = .ok size w) (a : Option Addr) (n c : Nat) (k : IntKind) (h : Int) (m : Nat) (hm : h = m) (hc : m ≤ c) (w : World) :
    (Instr.slice t (.slice a n c) none (some (.int k h)) none).run P w = .ok (.slice a m c) w := by
  subst hm
  rw [run_slice_h w t a n c ht k (m : Int) (by omega) (by omega), hs w]
  have e : a.map (fun x => x.add 0) = a := by
    cases a with
    | none => rfl
    | some x => simp [Addr.add]
  simp [Result.andThen, sliced, e]

/-- 's[l:]': the address moves, but not at the capacity's end. -/
theorem run_slice_from {P : Program} (t : TypeId) (ht : P.underlying t = some (.slice (P.elem t))) (size : Nat) (hs : ∀ w : World, (sizeOf (P.elem t)).run P w = .ok size w) (a : Option Addr) (n c : Nat) (k : IntKind) (l : Int) (m : Nat) (hm : l = m) (hc : m ≤ n) (w : World) :
    (Instr.slice t (.slice a n c) (some (.int k l)) none none).run P w = .ok (.slice (if c = m then a else a.map (fun x => x.add (m * size))) (n - m) (c - m)) w := by
  subst hm
  rw [run_slice_l w t a n c ht k (m : Int) (by omega) (by omega), hs w]
  simp [Result.andThen, sliced]

theorem Rd.from {w : World} {size : Nat} {a : Option Addr} {n c : Nat} {vs : List Value} (h : Rd w size a n c vs) (m : Nat) (hm : m ≤ n) :
    Rd w size (if c = m then a else a.map (fun x => x.add (m * size))) (n - m) (c - m) (vs.drop (m * size)) := by
  have h1 := h.cut m n hm (Nat.le_refl _) (a' := if c = m then a else a.map (fun x => x.add (m * size))) (fun hc x hx => by simp [hc, hx]) (fun h0 => by
    split at h0
    · exact h0
    · cases a with
      | none => rfl
      | some x => simp at h0)
  rwa [List.take_of_length_le (by rw [List.length_drop, h.len, Nat.sub_mul]; exact Nat.le_refl _)] at h1

theorem Rd.to {w : World} {size : Nat} {a : Option Addr} {n c : Nat} {vs : List Value} (h : Rd w size a n c vs) (m : Nat) (hm : m ≤ n) :
    Rd w size a m c (vs.take (m * size)) := by
  have h1 := h.cut 0 m (Nat.zero_le _) hm (a' := a) (fun _ x hx => by simp [hx, Addr.add]) (fun h0 => h0)
  simpa using h1

theorem RdB.to {w : World} {a : Option Addr} {c : Nat} {bs : List UInt8} (h : RdB w a c bs) (m : Nat) (hm : m ≤ bs.length) : RdB w a c (bs.take m) := by
  have h1 := Rd.to h m hm
  rw [Nat.mul_one, bytesV_take] at h1
  unfold RdB
  rwa [List.length_take, Nat.min_eq_left hm]

theorem RdB.from {w : World} {a : Option Addr} {c : Nat} {bs : List UInt8} (h : RdB w a c bs) (m : Nat) (hm : m ≤ bs.length) : RdB w (if c = m then a else a.map (fun x => x.add (m * 1))) (c - m) (bs.drop m) := by
  have h1 := Rd.from h m hm
  rw [Nat.mul_one m, bytesV_drop] at h1
  unfold RdB
  rw [List.length_drop, Nat.mul_one]
  exact h1

theorem grown_of_below {w w' : World} (hb : Below w.heap.size w w') (row : Option Nat) : w.grownBy w' row := ⟨hb.os, hb.tape, hb.output, hb.size, fun k hk _ => hb.block k hk⟩
/-- What is owned stays owned in every later world that keeps what there was. -/
theorem own_later {w w' : World} {base : Nat} {e : TypeId} {size : Nat} {v : Value} {n : Nat} {xs : List Value} (h : w.ownsRow base e size v n xs) (hb : Below w.heap.size w w') : w'.ownsRow base e size v n xs :=
  h.kept (grown_of_below hb none) (by cases v.ownBlock <;> simp)

/-- An old cell, in a later world. -/
theorem old_cell {w W : World} {x : Addr} {u : Value} (h : w.cell? x = some u) (hb : Below w.heap.size w W) : W.cell? x = some u := (hb.cell (block_of_cell h)).trans h

/-- 'run_app' at a step of a region that draws its order. -/
theorem step_app {P : Program} {w : World} {ops : Array Oper} {o : Oper} {a : Act} {K : Act → World → Prop} {Q : Exit → Act → World → Prop} {E : Prop} (hgd : o.guard = none) (s x : Operand) (t : TypeId)
    (ho : o.op = .call { callee := .builtin .append, args := #[s, x], argTypes := #[t, t] })
    (base : Nat) (e : TypeId) (i : TypeInfo) (z : Value) (size bytes : Nat) (ht : P.underlying t = some (.slice e)) (hi : P.info? e = some i) (hz : i.zero = some z)
    (hsize : i.size = size) (hby : i.bytes = bytes) (hzs : z.cells.size = size) (hsz : 0 < size)
    (a1 : Option Addr) (n c : Nat) (xs : List Value) (hs : a.eval s = .slice a1 n c) (hown : w.ownsRow base e size (.slice a1 n c) n xs)
    (a2 : Option Addr) (m c2 : Nat) (news : List Value) (hx : a.eval x = .slice a2 m c2) (hr : Rd w size a2 m c2 news)
    (h63 : n + m ≤ maxLen) (hbytes : (n + m) * bytes ≤ 140737488355328) (hbase : base ≤ w.heap.size)
    (h : ∀ a' c' w', w'.ownsRow base e size (.slice a' (n + m) c') (n + m) (xs ++ news) → w.grownBy w' (Value.slice a1 n c).ownBlock → K (a.put o.dst (.slice a' (n + m) c')) w') :
    if Region.wanted o (yielded ops a.tmps) = true then Oper.wp P o a w K Q else E := by
  have hw : Region.wanted o (yielded ops a.tmps) = true := by simp [Region.wanted, hgd]
  rw [if_pos hw]
  obtain ⟨a', c', w', hrun, h2, h3⟩ := run_app (P := P) base t o.type e i z size bytes ht hi hz hsize hby hzs hsz a1 n c xs hown a2 m c2 news hr h63 hbytes hbase
  unfold Oper.wp
  simp [execOp, ho, resolve, invoke, builtin, hs, hx, hrun, Result.andThen]
  exact h _ _ _ h2 h3

theorem u64_and255 (n : Int) : bits .and .u64 n 255 = n % 256 := by
  have h255 : (BitVec.ofInt 64 255).toNat = 2 ^ 8 - 1 := by decide
  have key : (BitVec.ofInt 64 n &&& BitVec.ofInt 64 255).toNat = (n % ((2 ^ 64 : Nat) : Int)).toNat % 2 ^ 8 := by
    rw [BitVec.toNat_and, BitVec.toNat_ofInt, h255, Nat.and_two_pow_sub_one_eq_mod]
  show IntKind.u64.wrap ((BitVec.ofInt 64 n &&& BitVec.ofInt 64 255).toNat : Nat) = n % 256
  rw [key, IntKind.wrap_u64]
  omega

/-- 'string(b)'. -/
theorem run_bytes_str {P : Program} {w : World} {src dst e : TypeId} {a : Option Addr} {n c : Nat} {bs : List UInt8} (hs : P.underlying src = some (.slice e)) (he : P.underlying e = some (.int .u8)) (hd : P.underlying dst = some .string)
    (h : Rd w 1 a n c (bytesV bs)) : (convert src dst (.slice a n c)).run P w = .ok (.string ⟨bs.toArray⟩) w := by
  have hn : n = bs.length := by
    have := h.len
    simp [bytesV_length] at this
    exact this.symm
  subst hn
  cases a with
  | none =>
    have h1 := h.nil rfl
    have h2 := h.le
    have : bs = [] := List.eq_nil_of_length_eq_zero (by omega)
    subst this
    rw [run_convert_bytes_string w src dst e none _ c hs he hd]
    rfl
  | some x =>
    refine run_convert_bytes_back w src dst e x c bs hs he hd fun j hj => ?_
    exact h.cell x rfl j _ (bytesV_get (List.getElem?_eq_getElem hj))
end Go.Proofs.YtgoegdlhbadlfaaDoor
