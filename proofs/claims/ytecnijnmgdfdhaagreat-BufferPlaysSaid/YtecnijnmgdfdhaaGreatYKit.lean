/- Joined: Kit, Own, Mem, Ky, MemS. -/
import Derived.WalkKit
import Derived.ProofKit
import Derived.OpenShut
import Derived.ShutString
import Derived.Below
import Derived.WalkSmall
import Derived.Lib.Hide
import Derived.Laws.AppendOwnNone
import Derived.OrdersHeld
import Derived.Deep.RegionHeld
import Derived.Laws.OwnMore
import Derived.ArgAppend
import Derived.Deep.Upon
import Derived.Deep.MidRow
import GoSem.Op.String
namespace Go.Proofs.YtecnijnmgdfdhaaGreat
open Go.RowKit

structure Rd (w : World) (size : Nat) (a : Option Addr) (n c : Nat) (vs : List Value) : Prop where
 len : vs.length = n * size
 le : n ≤ c
 cap : c ≤ maxLen
 nil : a = none → c = 0
 cell : ∀ x, a = some x → ∀ i u, vs[i]? = some u → w.cell? (x.add i) = some u
 one : ∀ u ∈ vs, u.oneCell' = true

theorem block_of_cell {w : World} {x : Addr} {u : Value} (h : w.cell? x = some u) : x.block < w.heap.size := World.block_lt_of_cell? w x h

theorem addr_add_block (x : Addr) (i : Nat) : (x.add i).block = x.block := by unfold Addr.add; split <;> rfl

theorem addr_add_add (x : Addr) (i j : Nat) : (x.add i).add j = x.add (i + j) := by
 unfold Addr.add
 by_cases hi : i = 0 <;> by_cases hj : j = 0 <;> simp [hi, hj, Nat.add_assoc]

theorem Rd.below {w w' : World} {size : Nat} {a : Option Addr} {n c : Nat} {vs : List Value} (h : Rd w size a n c vs) {B : Nat} (hb : Below B w w') (hB : ∀ x, a = some x → vs ≠ [] → x.block < B) : Rd w' size a n c vs := by
 refine ⟨h.len, h.le, h.cap, h.nil, fun x hx i u hu => ?_, h.one⟩
 have hne : vs ≠ [] := by rintro rfl; simp at hu
 rw [hb.cell (p := x.add i) (by rw [addr_add_block]; exact hB x hx hne)]
 exact h.cell x hx i u hu

theorem Rd.lt {w : World} {size : Nat} {a : Option Addr} {n c : Nat} {vs : List Value} (h : Rd w size a n c vs) : ∀ x, a = some x → vs ≠ [] → x.block < w.heap.size := by
 intro x hx hne
 match vs, hne with
 | u :: us, _ =>
  have := h.cell x hx 0 u rfl
  have := block_of_cell this
  rwa [addr_add_block] at this

theorem Rd.later {w w' : World} {size : Nat} {a : Option Addr} {n c : Nat} {vs : List Value} (h : Rd w size a n c vs) (hb : Below w.heap.size w w') : Rd w' size a n c vs := h.below hb h.lt

theorem Rd.nilSlice (w : World) (size : Nat) : Rd w size none 0 0 [] :=
 ⟨by simp, Nat.le_refl _, Nat.zero_le _, fun _ => rfl, (fun _ h => by cases h), (fun _ h => by cases h)⟩

theorem Rd.addr {w : World} {size : Nat} {a : Option Addr} {n c : Nat} {vs : List Value} (h : Rd w size a n c vs) (hne : vs ≠ []) :
  ∃ b o, a = some ⟨b, o, none⟩ ∧ ∀ i u, vs[i]? = some u → w.cell? ⟨b, o + i, none⟩ = some u := by
 match vs, hne with
 | u :: us, _ =>
  cases a with
  | none =>
   have h1 := h.nil rfl
   have h2 := h.le
   have h3 := h.len
   have : n = 0 := by omega
   subst this
   simp at h3
  | some x =>
   have hc := h.cell x rfl 0 u rfl
   obtain ⟨b, o, s⟩ := x
   have hs : s = none := by
    have h' := World.cell?_spot hc
    simpa [Addr.add] using h'
   subst hs
   refine ⟨b, o, rfl, fun i u hu => ?_⟩
   have := h.cell _ rfl i u hu
   rwa [Addr.add_lit] at this

theorem Rd.ofOwn {w : World} {base : Nat} {e : TypeId} {size : Nat} {v : Value} {n : Nat} {xs : List Value} (h : w.ownsRow base e size v n xs) (h1 : ∀ u ∈ xs, u.oneCell' = true) :
  ∃ a c, v = .slice a n c ∧ Rd w size a n c xs ∧ (∀ x, a = some x → base ≤ x.block) := by
 obtain ⟨hl, hv⟩ := h
 rcases hv with ⟨rfl, rfl⟩ | ⟨g, cap, cur, rfl, hg, hh, hn, hc, hs, ht⟩
 ·have : xs = [] := List.eq_nil_of_length_eq_zero (by simpa using hl)
  subst this
  exact ⟨none, 0, rfl, Rd.nilSlice w size, (fun _ h => by cases h)⟩
 ·refine ⟨some ⟨g, 0, none⟩, cap, rfl, ⟨hl, hn, hc, fun h => (by cases h), fun x hx i u hu => ?_, h1⟩, fun x hx => (by cases hx; exact hg)⟩
  cases hx
  exact World.ownsRow.cells (w := w) (base := base) (e := e) (size := size) (v := .slice (some ⟨g, 0, none⟩) n cap) ⟨hl, .inr ⟨g, cap, cur, rfl, hg, hh, hn, hc, hs, ht⟩⟩ (g := g) rfl i u hu

theorem Rd.cut {w : World} {size : Nat} {a : Option Addr} {n c : Nat} {vs : List Value} (h : Rd w size a n c vs) (l m : Nat) (hlm : l ≤ m) (hm : m ≤ n) {a' : Option Addr}
  (ha : ¬ c = l → ∀ x, a = some x → a' = some (x.add (l * size))) (ha0 : a' = none → a = none) :
  Rd w size a' (m - l) (c - l) ((vs.drop (l * size)).take ((m - l) * size)) := by
 have hle := h.le
 have e1 : m * size ≤ n * size := Nat.mul_le_mul_right _ hm
 have e2 : l * size ≤ m * size := Nat.mul_le_mul_right _ hlm
 have e3 : (m - l) * size = m * size - l * size := Nat.sub_mul _ _ _
 refine ⟨?_, by omega, by have := h.cap; omega, fun h0 => ?_, fun x hx i u hu => ?_, fun u hu => h.one u (List.mem_of_mem_drop (List.mem_of_mem_take hu))⟩
 ·rw [List.length_take, List.length_drop, h.len]; omega
 ·have := h.nil (ha0 h0); omega
 ·have hi : i < (m - l) * size := by
   have := (List.getElem?_eq_some_iff.1 hu).1
   rw [List.length_take] at this
   omega
  rw [List.getElem?_take_of_lt hi, List.getElem?_drop] at hu
  have hcl : ¬ c = l := by
   intro hc
   have : m - l = 0 := by omega
   rw [this] at hi; omega
  cases a with
  | none =>
   have := h.nil rfl
   omega
  | some y =>
   have hy := ha hcl y rfl
   rw [hx] at hy
   obtain rfl := Option.some.inj hy
   have := h.cell y rfl (l * size + i) u hu
   rw [addr_add_add]
   exact this

def bytesV (bs : List UInt8) : List Value := bs.map fun b => Value.int .u8 b.toNat
theorem bytesV_one (bs : List UInt8) : ∀ u ∈ bytesV bs, u.oneCell' = true := by
 intro u hu
 obtain ⟨_, _, rfl⟩ := List.mem_map.1 hu
 rfl
theorem bytesV_length (bs : List UInt8) : (bytesV bs).length = bs.length := by simp [bytesV]
theorem bytesV_get {bs : List UInt8} {i : Nat} {x : UInt8} (h : bs[i]? = some x) : (bytesV bs)[i]? = some (.int .u8 x.toNat) := by simp [bytesV, h]
theorem bytesV_append (a b : List UInt8) : bytesV (a ++ b) = bytesV a ++ bytesV b := by simp [bytesV]
theorem bytesV_take (a : List UInt8) (n : Nat) : (bytesV a).take n = bytesV (a.take n) := by simp [bytesV]
theorem bytesV_drop (a : List UInt8) (n : Nat) : (bytesV a).drop n = bytesV (a.drop n) := by simp [bytesV]
theorem bytesV_ne {bs : List UInt8} (h : bs ≠ []) : bytesV bs ≠ [] := by simpa [bytesV] using h

abbrev RdB (w : World) (a : Option Addr) (c : Nat) (bs : List UInt8) : Prop := Rd w 1 a bs.length c (bytesV bs)
theorem RdB.later {w w' : World} {a : Option Addr} {c : Nat} {bs : List UInt8} (h : RdB w a c bs) (hb : Below w.heap.size w w') : RdB w' a c bs := Rd.later h hb
theorem RdB.addr {w : World} {a : Option Addr} {c : Nat} {bs : List UInt8} (h : RdB w a c bs) (hne : bs ≠ []) :
  ∃ b o, a = some ⟨b, o, none⟩ ∧ ∀ i x, bs[i]? = some x → w.cell? ⟨b, o + i, none⟩ = some (.int .u8 x.toNat) := by
 obtain ⟨b, o, h1, h2⟩ := Rd.addr h (bytesV_ne hne)
 exact ⟨b, o, h1, fun i x hx => h2 i _ (bytesV_get hx)⟩
theorem RdB.at {w : World} {a : Option Addr} {c : Nat} {bs : List UInt8} (h : RdB w a c bs) :
  ∀ k x, bs[k]? = some x → ∃ b o, a = some ⟨b, o, none⟩ ∧ w.cell? ⟨b, o + k, none⟩ = some (.int .u8 x.toNat) := by
 intro k x hx
 obtain ⟨b, o, h1, h2⟩ := h.addr (by rintro rfl; simp at hx)
 exact ⟨b, o, h1, h2 k x hx⟩
theorem RdB.le {w : World} {a : Option Addr} {c : Nat} {bs : List UInt8} (h : RdB w a c bs) : bs.length ≤ c ∧ c ≤ maxLen := ⟨Rd.le h, Rd.cap h⟩

theorem bcell {W w1 : World} (hb : Below W.heap.size W w1) : (∀ b o, b < W.heap.size → w1.cell? ⟨b, o, none⟩ = W.cell? ⟨b, o, none⟩) ∧ (∀ b o, b < W.heap.size → w1.frozen? ⟨b, o, none⟩ = W.frozen? ⟨b, o, none⟩) :=
 ⟨fun b o h => hb.cell (p := ⟨b, o, none⟩) h, fun b o h => hb.frozen (p := ⟨b, o, none⟩) h⟩

theorem run_app {P : Program} {w : World} (base : Nat) (t ty e : TypeId) (i : TypeInfo) (z : Value) (size bytes : Nat) (ht : P.underlying t = some (.slice e)) (hi : P.info? e = some i) (hz : i.zero = some z)
  (hsize : i.size = size) (hby : i.bytes = bytes) (hzs : z.cells.size = size) (hsz : 0 < size)
  (a : Option Addr) (n c : Nat) (xs : List Value) (hown : w.ownsRow base e size (.slice a n c) n xs)
  (a2 : Option Addr) (m c2 : Nat) (news : List Value) (hs : Rd w size a2 m c2 news)
  (h63 : n + m ≤ maxLen) (hbytes : (n + m) * bytes ≤ 140737488355328) (hbase : base ≤ w.heap.size) :
  ∃ a' c' w', (Builtin.append_ #[t, t] ty #[.slice a n c, .slice a2 m c2]).run P w = .ok (.slice a' (n + m) c') w' ∧ w'.ownsRow base e size (.slice a' (n + m) c') (n + m) (xs ++ news) ∧ w.grownBy w' (Value.slice a n c).ownBlock := by
 cases a2 with
 | some ad =>
  obtain ⟨v', w', hr, h2, h3, _⟩ := run_append_own (P := P) w base t ty e i z size bytes ht hi hz hsize hby hzs hsz _ n xs hown ad m c2 news hs.len (hs.cell ad rfl) hs.one h63 hbytes hbase
  rcases h2.2 with ⟨rfl, h0⟩ | ⟨g, cap, cur, rfl, _⟩
  ·rw [h0] at h2 ⊢; exact ⟨_, _, _, by rw [h0] at *; exact hr, h2, h3⟩
  ·exact ⟨_, _, _, hr, h2, h3⟩
 | none =>
  have hc := hs.nil rfl
  have hm : m = 0 := by have := hs.le; omega
  subst hc; subst hm
  have hn : news = [] := List.eq_nil_of_length_eq_zero (by simpa using hs.len)
  subst hn
  have hrun := run_append_owned_none (P := P) (w := w) base t ty e i size ht hi _ n xs hown
  exact ⟨_, _, _, hrun, by simpa using hown, World.grownBy.refl _ _⟩

theorem wpList_app {P : Program} {w : World} {ops : Array Oper} {rest : List Oper} {o : Oper} {a : Act} {Q : Exit → Act → World → Prop} (hgd : o.guard = none) (s x : Operand) (t : TypeId)
  (ho : o.op = .call { callee := .builtin .append, args := #[s, x], argTypes := #[t, t] })
  (base : Nat) (e : TypeId) (i : TypeInfo) (z : Value) (size bytes : Nat) (ht : P.underlying t = some (.slice e)) (hi : P.info? e = some i) (hz : i.zero = some z)
  (hsize : i.size = size) (hby : i.bytes = bytes) (hzs : z.cells.size = size) (hsz : 0 < size)
  (a1 : Option Addr) (n c : Nat) (xs : List Value) (hs : a.eval s = .slice a1 n c) (hown : w.ownsRow base e size (.slice a1 n c) n xs)
  (a2 : Option Addr) (m c2 : Nat) (news : List Value) (hx : a.eval x = .slice a2 m c2) (hr : Rd w size a2 m c2 news)
  (h63 : n + m ≤ maxLen) (hbytes : (n + m) * bytes ≤ 140737488355328) (hbase : base ≤ w.heap.size)
  (h : ∀ a' c' w', w'.ownsRow base e size (.slice a' (n + m) c') (n + m) (xs ++ news) → w.grownBy w' (Value.slice a1 n c).ownBlock → wpList P ops Q rest (a.put o.dst (.slice a' (n + m) c')) w') : wpList P ops Q (o :: rest) a w := by
 refine wpList_plain hgd fun K hK => ?_
 obtain ⟨a', c', w', hrun, h2, h3⟩ := run_app (P := P) base t o.type e i z size bytes ht hi hz hsize hby hzs hsz a1 n c xs hown a2 m c2 news hr h63 hbytes hbase
 unfold Oper.wp
 simp [execOp, ho, resolve, invoke, builtin, hs, hx, hrun, Result.andThen]
 exact hK _ _ (h _ _ _ h2 h3)

theorem Rd.oneNew (w : World) (u : Value) (t : TypeId) (h1 : u.oneCell' = true) : Rd (w.alloc (.cells #[u] t)) 1 (some ⟨w.heap.size, 0, none⟩) 1 1 [u] :=
 ⟨rfl, Nat.le_refl _, by decide, (fun h => by cases h), (fun x hx i v hv => by
  cases hx
  match i, hv with
  | 0, hv => simp at hv; subst hv; simp [Addr.add]
  | i + 1, hv => simp at hv), (fun v hv => by simp at hv; subst hv; exact h1)⟩

theorem Rd.made (w : World) (vs : List Value) (t : TypeId) (size n : Nat) (hl : vs.length = n * size) (hn : n ≤ maxLen) (h1 : ∀ u ∈ vs, u.oneCell' = true) (fr : Nat × Nat) :
  Rd (w.alloc (.cells vs.toArray t fr)) size (some ⟨w.heap.size, 0, none⟩) n n vs := by
 refine ⟨hl, Nat.le_refl _, hn, (fun h => by cases h), (fun x hx i u hu => ?_), h1⟩
 cases hx
 rw [Addr.add_lit, Nat.zero_add, cell_of_row _ w.heap.size i _ t fr (heap_alloc_new w _)]
 simpa using hu

def GivesB (w : World) (bs : List UInt8) (e : Ending) (w' : World) : Prop := ∃ a c, e = .returned (.slice a bs.length c) ∧ RdB w' a c bs ∧ Below w.heap.size w w'

theorem run_slice_to {P : Program} (t : TypeId) (ht : P.underlying t = some (.slice (P.elem t))) (size : Nat) (hs : ∀ w : World, (sizeOf (P.elem t)).run P w = .ok size w) (a : Option Addr) (n c : Nat) (k : IntKind) (h : Int) (m : Nat) (hm : h = m) (hc : m ≤ c) (w : World) :
  (Instr.slice t (.slice a n c) none (some (.int k h)) none).run P w = .ok (.slice a m c) w := by
 subst hm
 rw [run_slice_h w t a n c ht k (m : Int) (by omega) (by omega), hs w]
 have e : a.map (fun x => x.add 0) = a := by
  cases a with
  | none => rfl
  | some x => simp [Addr.add]
 simp [Result.andThen, sliced, e]

theorem run_slice_from {P : Program} (t : TypeId) (ht : P.underlying t = some (.slice (P.elem t))) (size : Nat) (hs : ∀ w : World, (sizeOf (P.elem t)).run P w = .ok size w) (a : Option Addr) (n c : Nat) (k : IntKind) (l : Int) (m : Nat) (hm : l = m) (hc : m ≤ n) (w : World) :
  (Instr.slice t (.slice a n c) (some (.int k l)) none none).run P w = .ok (.slice (if c = m then a else a.map (fun x => x.add (m * size))) (n - m) (c - m)) w := by
 subst hm
 rw [run_slice_l w t a n c ht k (m : Int) (by omega) (by omega), hs w]
 simp [Result.andThen, sliced]

theorem Rd.from {w : World} {size : Nat} {a : Option Addr} {n c : Nat} {vs : List Value} (h : Rd w size a n c vs) (m : Nat) (hm : m ≤ n) :
  Rd w size (if c = m then a else a.map (fun x => x.add (m * size))) (n - m) (c - m) (vs.drop (m * size)) := by
 have h1 := h.cut m n hm (Nat.le_refl _) (a' := if c = m then a else a.map (fun x => x.add (m * size))) (fun hc x hx => by simp [hc, hx]) (fun h0 => by
  split at h0
  ·exact h0
  ·cases a with
   | none => rfl
   | some x => simp at h0)
 rwa [List.take_of_length_le (by rw [List.length_drop, h.len, Nat.sub_mul]; exact Nat.le_refl _)] at h1

theorem Rd.to {w : World} {size : Nat} {a : Option Addr} {n c : Nat} {vs : List Value} (h : Rd w size a n c vs) (m : Nat) (hm : m ≤ n) :
  Rd w size a m c (vs.take (m * size)) := by
 have h1 := h.cut 0 m (Nat.zero_le _) hm (a' := a) (fun _ x hx => by simp [hx, Addr.add]) (fun h0 => h0)
 simpa using h1

theorem RdB.to {w : World} {a : Option Addr} {c : Nat} {bs : List UInt8} (h : RdB w a c bs) (m : Nat) (hm : m ≤ bs.length) : RdB w a c (bs.take m) := by
 have h1 := Rd.to h m hm
 rw [Nat.mul_one, bytesV_take] at h1
 unfold RdB
 rwa [List.length_take, Nat.min_eq_left hm]

theorem RdB.from {w : World} {a : Option Addr} {c : Nat} {bs : List UInt8} (h : RdB w a c bs) (m : Nat) (hm : m ≤ bs.length) : RdB w (if c = m then a else a.map (fun x => x.add (m * 1))) (c - m) (bs.drop m) := by
 have h1 := Rd.from h m hm
 rw [Nat.mul_one m, bytesV_drop] at h1
 unfold RdB
 rw [List.length_drop, Nat.mul_one]
 exact h1

theorem grown_of_below {w w' : World} (hb : Below w.heap.size w w') (row : Option Nat) : w.grownBy w' row := ⟨hb.os, hb.tape, hb.output, hb.size, fun k hk _ => hb.block k hk⟩
theorem old_cell {w W : World} {x : Addr} {u : Value} (h : w.cell? x = some u) (hb : Below w.heap.size w W) : W.cell? x = some u := (hb.cell (block_of_cell h)).trans h

theorem u64_and255 (n : Int) : bits .and .u64 n 255 = n % 256 := by
 have h255 : (BitVec.ofInt 64 255).toNat = 2 ^ 8 - 1 := by decide
 have key : (BitVec.ofInt 64 n &&& BitVec.ofInt 64 255).toNat = (n % ((2 ^ 64 : Nat) : Int)).toNat % 2 ^ 8 := by
  rw [BitVec.toNat_and, BitVec.toNat_ofInt, h255, Nat.and_two_pow_sub_one_eq_mod]
 show IntKind.u64.wrap ((BitVec.ofInt 64 n &&& BitVec.ofInt 64 255).toNat : Nat) = n % 256
 rw [key, IntKind.wrap_u64]
 omega

theorem run_bytes_str {P : Program} {w : World} {src dst e : TypeId} {a : Option Addr} {n c : Nat} {bs : List UInt8} (hs : P.underlying src = some (.slice e)) (he : P.underlying e = some (.int .u8)) (hd : P.underlying dst = some .string)
  (h : Rd w 1 a n c (bytesV bs)) : (convert src dst (.slice a n c)).run P w = .ok (.string ⟨bs.toArray⟩) w := by
 have hn : n = bs.length := by
  have := h.len
  simp [bytesV_length] at this
  exact this.symm
 subst hn
 cases a with
 | none =>
  have h1 := h.nil rfl
  have h2 := h.le
  have : bs = [] := List.eq_nil_of_length_eq_zero (by omega)
  subst this
  rw [run_convert_bytes_string w src dst e none _ c hs he hd]
  rfl
 | some x =>
  refine run_convert_bytes_back w src dst e x c bs hs he hd fun j hj => ?_
  exact h.cell x rfl j _ (bytesV_get (List.getElem?_eq_getElem hj))
theorem zzT {P : Program} {ops : Array Oper} {Q : Exit → Act → World → Prop} {md : Region.Mode} {S : World → Prop} {i : Nat} {oi : Oper} {v : Value} {fuel : Nat} {listed : Array Bool} {a : Act} {w : World} (hi : ops[i]? = some oi)
  (hk : (Region.noSelect ops && (Region.free md ops listed i && ((Region.ready md ops listed).contains i && Region.wanted oi (yielded ops a.tmps)))) = true)
  (hQ : ∀ c a w, Q (.panic c) (a.put oi.dst v) w → Q (.panic c) a w) (hy : ∀ w, S w → (execOp a.eval oi).run P w = .ok (.value v) w) (hS : S w) (h : wpAnyH P md ops Q S fuel (listed.setIfInBounds i true) (a.put oi.dst v) w) : wpAnyH P md ops Q S (fuel + 1) listed a w := by
 simp only [Bool.and_eq_true] at hk
 exact wpAnyH_take hi hk.1 hk.2.1 hk.2.2.1 hQ (.inl ⟨hk.2.2.2, hy⟩) hS h
theorem zzA {α : Type} {l : List α} {i : Nat} (h : i < l.toArray.size) : l.toArray[i] = l[i]'(by simpa using h) := List.getElem_toArray h
theorem zzB {α : Type} (a : α) (l : List α) (i : Nat) (h : i + 1 < (a :: l).length) : (a :: l)[i + 1] = l[i]'(by simpa using h) := List.getElem_cons_succ a l i h
theorem zzC {α : Type} (a : α) (l : List α) (h : 0 < (a :: l).length) : (a :: l)[0] = a := rfl
theorem zzD {α : Type} (l : List α) (i : Nat) (a : α) : l.toArray.setIfInBounds i a = (l.set i a).toArray := List.setIfInBounds_toArray l i a
theorem zzE {α : Type} {x : α} {l : List α} {a : α} : (x :: l).set 0 a = a :: l := rfl
theorem zzF {α : Type} {x : α} {l : List α} {i : Nat} {a : α} : (x :: l).set (i + 1) a = x :: l.set i a := rfl
end Go.Proofs.YtecnijnmgdfdhaaGreat

namespace Go.Proofs.YtecnijnmgdfdhaaGreat
open Go.RowKit

theorem Rd.grown {w w' : World} {size : Nat} {a : Option Addr} {n c : Nat} {vs : List Value} (h : Rd w size a n c vs) {row : Option Nat} (hg : w.grownBy w' row) (hr : ∀ x, a = some x → some x.block ≠ row) : Rd w' size a n c vs := by
 refine ⟨h.len, h.le, h.cap, h.nil, fun x hx i u hu => ?_, h.one⟩
 have h1 := h.cell x hx i u hu
 have hlt := block_of_cell h1
 rw [addr_add_block] at hlt
 rw [World.cell?_of_block (hg.block _ (by rw [addr_add_block]; exact hlt) (by rw [addr_add_block]; exact hr x hx))]
 exact h1
theorem Rd.row {w : World} {B : Nat} {e : TypeId} {size : Nat} {a : Option Addr} {n c : Nat} {xs : List Value} (h : w.ownsRow B e size (.slice a n c) n xs) (h1 : ∀ u ∈ xs, u.oneCell' = true) : Rd w size a n c xs := by
 obtain ⟨a', c', h2, h3, _⟩ := Rd.ofOwn h h1
 simp only [Value.slice.injEq, true_and] at h2
 obtain ⟨rfl, rfl⟩ := h2
 exact h3
theorem from_ex {P : Program} {w : World} (t : TypeId) (ht : P.underlying t = some (.slice (P.elem t))) (size : Nat) (hs : ∀ w : World, (sizeOf (P.elem t)).run P w = .ok size w) {a : Option Addr} {n c : Nat} {vs : List Value} (_h : Rd w size a n c vs) (k : IntKind) (m : Nat) (hm : m ≤ n) :
  ∃ a', (∀ W : World, (Instr.slice t (.slice a n c) (some (.int k (m : Int))) none none).run P W = .ok (.slice a' (n - m) (c - m)) W) ∧ ∀ W : World, Rd W size a n c vs → Rd W size a' (n - m) (c - m) (vs.drop (m * size)) :=
 ⟨_, fun W => run_slice_from t ht size hs a n c k (m : Int) m rfl hm W, fun _ h => h.from m hm⟩
theorem to_ex {P : Program} (t : TypeId) (ht : P.underlying t = some (.slice (P.elem t))) (size : Nat) (hs : ∀ w : World, (sizeOf (P.elem t)).run P w = .ok size w) (a : Option Addr) (n c : Nat) (k : IntKind) (m : Nat) (hc : m ≤ c) :
  ∀ W : World, (Instr.slice t (.slice a n c) none (some (.int k (m : Int))) none).run P W = .ok (.slice a m c) W := fun W => run_slice_to t ht size hs a n c k (m : Int) m rfl hc W
theorem Rd.twoNew (w : World) (u v : Value) (t : TypeId) (h1 : u.oneCell' = true) (h2 : v.oneCell' = true) : Rd (w.alloc (.cells #[u, v] t)) 2 (some ⟨w.heap.size, 0, none⟩) 1 1 [u, v] :=
 Rd.made w [u, v] t 2 1 rfl (by decide) (fun x hx => by
  simp only [List.mem_cons, List.not_mem_nil, or_false] at hx
  rcases hx with rfl | rfl <;> assumption) (0, 0)
end Go.Proofs.YtecnijnmgdfdhaaGreat

namespace Go.Proofs.YtecnijnmgdfdhaaGreat
open Go.RowKit

abbrev Foot := Nat → Nat → Prop
abbrev noCells : Foot := fun _ _ => False
structure Fr (S : Foot) (w w' : World) : Prop where
 os : w'.os = w.os
 tape : w'.tape = w.tape
 output : w'.output = w.output
 size : w.heap.size ≤ w'.heap.size
 block : ∀ k, k < w.heap.size → (∀ o, ¬ S k o) → w'.heap[k]? = w.heap[k]?
 cell : ∀ k o, k < w.heap.size → ¬ S k o → w'.cell? ⟨k, o, none⟩ = w.cell? ⟨k, o, none⟩
 froz : ∀ k o, k < w.heap.size → ¬ S k o → w'.frozen? ⟨k, o, none⟩ = w.frozen? ⟨k, o, none⟩

theorem Fr.refl (S : Foot) (w : World) : Fr S w w := ⟨rfl, rfl, rfl, Nat.le_refl _, fun _ _ _ => rfl, fun _ _ _ _ => rfl, fun _ _ _ _ => rfl⟩
theorem Fr.trans {S S' : Foot} {w w1 w2 : World} (h : Fr S w w1) (k : Fr S' w1 w2) (hs : ∀ b o, S' b o → S b o ∨ w.heap.size ≤ b) : Fr S w w2 := by
 have ns : ∀ b o, b < w.heap.size → ¬ S b o → ¬ S' b o := fun b o hb hn h' => by
  rcases hs b o h' with h1 | h1
  ·exact hn h1
  ·omega
 refine ⟨k.os.trans h.os, k.tape.trans h.tape, k.output.trans h.output, Nat.le_trans h.size k.size, fun b hb hn => ?_, fun b o hb hn => ?_, fun b o hb hn => ?_⟩
 ·exact (k.block b (Nat.lt_of_lt_of_le hb h.size) (fun o => ns b o hb (hn o))).trans (h.block b hb hn)
 ·exact (k.cell b o (Nat.lt_of_lt_of_le hb h.size) (ns b o hb hn)).trans (h.cell b o hb hn)
 ·exact (k.froz b o (Nat.lt_of_lt_of_le hb h.size) (ns b o hb hn)).trans (h.froz b o hb hn)
theorem Fr.mono {S S' : Foot} {w w' : World} (h : Fr S w w') (hs : ∀ b o, S b o → S' b o) : Fr S' w w' :=
 ⟨h.os, h.tape, h.output, h.size, fun b hb hn => h.block b hb (fun o h' => hn o (hs b o h')), fun b o hb hn => h.cell b o hb (fun h' => hn (hs b o h')), fun b o hb hn => h.froz b o hb (fun h' => hn (hs b o h'))⟩
theorem Fr.ofBelow {w w' : World} (h : Below w.heap.size w w') (S : Foot) : Fr S w w' :=
 ⟨h.os, h.tape, h.output, h.size, fun b hb _ => h.block b hb, fun b o hb _ => h.cell (p := ⟨b, o, none⟩) hb, fun b o hb _ => h.frozen (p := ⟨b, o, none⟩) hb⟩
theorem Fr.below {S : Foot} {w w' : World} (h : Fr S w w') {B : Nat} (hB : B ≤ w.heap.size) (hs : ∀ b o, S b o → B ≤ b) : Below B w w' :=
 ⟨h.os, h.tape, h.output, h.size, fun k hk => h.block k (Nat.lt_of_lt_of_le hk hB) (fun o h' => by have := hs k o h'; omega)⟩
theorem Fr.drew {S : Foot} {w w' : World} (h : Fr S w w') : Fr S w w'.drew := ⟨h.os, h.tape, h.output, h.size, h.block, h.cell, h.froz⟩
theorem Fr.alloc {S : Foot} {w w' : World} (h : Fr S w w') (o : Obj) : Fr S w (w'.alloc o) :=
 h.trans (Fr.ofBelow (S := noCells) ((Below.refl _ _).alloc (Nat.le_refl _) _)) (fun _ _ h => h.elim)
theorem Fr.setCell {S : Foot} {w w' : World} (h : Fr S w w') {b o : Nat} (hs : S b o ∨ w.heap.size ≤ b) (u : Value) : Fr S w (w'.setCell ⟨b, o, none⟩ u) := by
 have h1 : Fr (fun k i => k = b ∧ i = o) w' (w'.setCell ⟨b, o, none⟩ u) := by
  refine ⟨rfl, rfl, rfl, by simp, fun k hk hn => ?_, fun k i hk hn => ?_, fun k i hk hn => by simp⟩
  ·exact Below.heap_setCell _ _ _ _ (fun e => hn o ⟨e, rfl⟩)
  ·exact World.cell?_setCell_other _ _ _ _ (fun e => hn (by cases e; exact ⟨rfl, rfl⟩))
 exact h.trans h1 (fun k i ⟨e1, e2⟩ => by subst e1; subst e2; exact hs)
def rng (b o n : Nat) : Foot := fun k i => k = b ∧ o ≤ i ∧ i < o + n
theorem Fr.setCells (w : World) (b o : Nat) (vs : List Value) : Fr (rng b o vs.length) w (w.setCells b o vs) := by
 refine ⟨World.os_setCells w b o vs, ?_, World.output_setCells w b o vs, ?_, fun k hk hn => ?_, fun k i hk hn => ?_, fun k i hk hn => World.frozen?_setCells b vs o w _⟩
 ·induction vs generalizing w o with
  | nil => rfl
  | cons v vs ih => exact (ih (w.setCell ⟨b, o, none⟩ v) (o + 1)).trans rfl
 ·have : ∀ (vs : List Value) (o : Nat) (w : World), w.heap.size ≤ (w.setCells b o vs).heap.size := by
   intro vs
   induction vs with
   | nil => intro o w; exact Nat.le_refl _
   | cons v vs ih =>
    intro o w
    have := ih (o + 1) (w.setCell ⟨b, o, none⟩ v)
    simpa [World.setCells] using this
  exact this vs o w
 ·by_cases hv : vs = []
  ·subst hv; rfl
  ·refine World.heap_setCells_other w b o vs hk (fun e => ?_)
   have : 0 < vs.length := List.length_pos_iff.2 hv
   exact hn o ⟨e, Nat.le_refl _, by omega⟩
 ·refine World.cell?_setCells_out b vs o w ⟨k, i, none⟩ (fun e _ => ?_)
  have e' : k = b := e
  have : ¬ (o ≤ i ∧ i < o + vs.length) := fun h => hn ⟨e', h⟩
  show i < o ∨ o + vs.length ≤ i
  omega
theorem Fr.grown {w w' : World} {row : Option Nat} (hg : w.grownBy w' row) : Fr (fun k _ => row = some k) w w' :=
 ⟨hg.os, hg.tape, hg.output, hg.size, fun k hk hn => hg.block k hk (fun e => hn 0 e.symm), fun k _o hk hn => World.cell?_of_block (hg.block k hk (fun e => hn e.symm)), fun k _o hk hn => World.frozen?_of_block (hg.block k hk (fun e => hn e.symm))⟩
theorem Fr.lt {S : Foot} {w w' : World} (h : Fr S w w') {k : Nat} (hk : k < w.heap.size) : k < w'.heap.size := Nat.lt_of_lt_of_le hk h.size

def Apart (F G : Foot) : Prop := ∀ b o, F b o → ¬ G b o
theorem Apart.symm {F G : Foot} (h : Apart F G) : Apart G F := fun b o hg hf => h b o hf hg
def Grew (w : World) (F F' : Foot) : Prop := ∀ b o, F' b o → F b o ∨ w.heap.size ≤ b
theorem Grew.refl (w : World) (F : Foot) : Grew w F F := fun _ _ h => .inl h
theorem Grew.trans {w w1 : World} {F F1 F2 : Foot} (h : Grew w F F1) (k : Grew w1 F1 F2) (hs : w.heap.size ≤ w1.heap.size) : Grew w F F2 := fun b o h2 => by
 rcases k b o h2 with h1 | h1
 ·exact h b o h1
 ·exact .inr (by omega)
def Lies (w : World) (F : Foot) : Prop := ∀ b o, F b o → b < w.heap.size
theorem Lies.later {S : Foot} {w w' : World} {F : Foot} (h : Lies w F) (hf : Fr S w w') : Lies w' F := fun b o hb => hf.lt (h b o hb)
theorem Apart.grew {w : World} {F G G' : Foot} (h : Apart F G) (hl : Lies w F) (hg : Grew w G G') : Apart F G' := fun b o hf hg' => by
 rcases hg b o hg' with h1 | h1
 ·exact h b o hf h1
 ·have := hl b o hf; omega
theorem cell_fr {S : Foot} {w w' : World} (h : Fr S w w') {b o : Nat} {u : Value} (hc : w.cell? ⟨b, o, none⟩ = some u) (hs : ¬ S b o) : w'.cell? ⟨b, o, none⟩ = some u :=
 (h.cell b o (block_of_cell hc) hs).trans hc

structure Sl (w : World) (size : Nat) (F : Foot) (a : Option Addr) (n c : Nat) (xs : List Value) : Prop where
 len : xs.length = n * size
 le : n ≤ c
 cap : c ≤ maxLen
 nil : a = none → c = 0
 one : ∀ u ∈ xs, u.oneCell' = true
 at_ : ∀ x, a = some x → 0 < c * size → ∃ b o, x = ⟨b, o, none⟩ ∧ (∀ i, i < c * size → F b (o + i)) ∧ (∀ i u, xs[i]? = some u → w.cell? ⟨b, o + i, none⟩ = some u) ∧
  ∀ i, i < c * size → (w.cell? ⟨b, o + i, none⟩).isSome = true ∧ w.frozen? ⟨b, o + i, none⟩ = false
theorem Sl.fr {S F : Foot} {w w' : World} {size : Nat} {a : Option Addr} {n c : Nat} {xs : List Value} (h : Sl w size F a n c xs) (hf : Fr S w w') (hd : Apart F S) : Sl w' size F a n c xs := by
 refine ⟨h.len, h.le, h.cap, h.nil, h.one, fun x hx h0 => ?_⟩
 obtain ⟨b, o, rfl, h1, h2, h3⟩ := h.at_ x hx h0
 have hlt : b < w.heap.size := by
  obtain ⟨u, hu⟩ := Option.isSome_iff_exists.1 (h3 0 h0).1
  exact block_of_cell hu
 refine ⟨b, o, rfl, h1, fun i u hu => ?_, fun i hi => ?_⟩
 ·have hi : i < c * size := by
   have := (List.getElem?_eq_some_iff.1 hu).1
   have := h.len
   have := Nat.mul_le_mul_right size h.le
   omega
  rw [hf.cell b _ hlt (hd _ _ (h1 i hi))]
  exact h2 i u hu
 ·rw [hf.cell b _ hlt (hd _ _ (h1 i hi)), hf.froz b _ hlt (hd _ _ (h1 i hi))]
  exact h3 i hi
theorem Sl.foot {F F' : Foot} {w : World} {size : Nat} {a : Option Addr} {n c : Nat} {xs : List Value} (h : Sl w size F a n c xs) (hs : ∀ b o, F b o → F' b o) : Sl w size F' a n c xs :=
 ⟨h.len, h.le, h.cap, h.nil, h.one, fun x hx h0 => by
  obtain ⟨b, o, e, h1, h2⟩ := h.at_ x hx h0
  exact ⟨b, o, e, fun i hi => hs _ _ (h1 i hi), h2⟩⟩
theorem Sl.none_ (w : World) (size : Nat) : Sl w size noCells none 0 0 [] :=
 ⟨by simp, Nat.le_refl _, Nat.zero_le _, fun _ => rfl, (fun _ h => by cases h), fun _ h => by cases h⟩
theorem Sl.rd {F : Foot} {w : World} {size : Nat} {a : Option Addr} {n c : Nat} {xs : List Value} (h : Sl w size F a n c xs) : Rd w size a n c xs := by
 refine ⟨h.len, h.le, h.cap, h.nil, fun x hx i u hu => ?_, h.one⟩
 have hi : i < c * size := by
  have := (List.getElem?_eq_some_iff.1 hu).1
  have := h.len
  have := Nat.mul_le_mul_right size h.le
  omega
 obtain ⟨b, o, rfl, _, h2, _⟩ := h.at_ x hx (by omega)
 rw [Addr.add_lit]
 exact h2 i u hu
theorem Sl.addr {F : Foot} {w : World} {size : Nat} {a : Option Addr} {n c : Nat} {xs : List Value} (h : Sl w size F a n c xs) (hne : 0 < n * size) :
  ∃ b o, a = some ⟨b, o, none⟩ ∧ (∀ i, i < c * size → F b (o + i)) ∧ (∀ i u, xs[i]? = some u → w.cell? ⟨b, o + i, none⟩ = some u) ∧
  ∀ i, i < c * size → (w.cell? ⟨b, o + i, none⟩).isSome = true ∧ w.frozen? ⟨b, o + i, none⟩ = false := by
 have hc : 0 < c * size := by have := Nat.mul_le_mul_right size h.le; omega
 cases ha : a with
 | none => have := h.nil ha; subst this; simp at hc
 | some x =>
  obtain ⟨b, o, rfl, r⟩ := h.at_ x ha hc
  exact ⟨b, o, rfl, r⟩
theorem Sl.ofOwn {w : World} {B : Nat} {e : TypeId} {size : Nat} {v : Value} {n : Nat} {xs : List Value} (h : w.ownsRow B e size v n xs) (h1 : ∀ u ∈ xs, u.oneCell' = true) :
  ∃ a c, v = .slice a n c ∧ Sl w size (fun k _ => B ≤ k ∧ k < w.heap.size) a n c xs := by
 obtain ⟨hl, hv⟩ := h
 rcases hv with ⟨rfl, rfl⟩ | ⟨g, cap, cur, rfl, hg, hh, hn, hc, hs, ht⟩
 ·have : xs = [] := List.eq_nil_of_length_eq_zero (by simpa using hl)
  subst this
  exact ⟨none, 0, rfl, (Sl.none_ w size).foot (fun _ _ h => h.elim)⟩
 ·have hlt : g < w.heap.size := by
   have := (Array.getElem?_eq_some_iff.1 hh).1
   exact this
  have hcells := World.ownsRow.cells (w := w) (base := B) (e := e) (size := size) (v := .slice (some ⟨g, 0, none⟩) n cap) ⟨hl, .inr ⟨g, cap, cur, rfl, hg, hh, hn, hc, hs, ht⟩⟩ (g := g) rfl
  refine ⟨_, _, rfl, hl, hn, hc, (fun h => by cases h), h1, fun x hx h0 => ?_⟩
  cases hx
  refine ⟨g, 0, rfl, fun i hi => ⟨hg, hlt⟩, fun i u hu => ?_, fun i hi => ?_⟩
  ·rw [Nat.zero_add]
   have := hcells i u hu
   rwa [Addr.add_lit, Nat.zero_add] at this
  ·rw [Nat.zero_add]
   have hc' : w.cell? ⟨g, i, none⟩ = cur[i]? := cell_of_row _ g i _ e (0, 0) hh
   rw [hc', World.ownsRow.frozenAt (w := w) (base := B) (e := e) (size := size) (n := n) (xs := xs) (cap := cap) ⟨hl, .inr ⟨g, cap, cur, rfl, hg, hh, hn, hc, hs, ht⟩⟩ i]
   exact ⟨by rw [Array.getElem?_eq_getElem (by omega)]; rfl, rfl⟩

theorem run_app_sl {P : Program} {w : World} (t ty e : TypeId) (i : TypeInfo) (z : Value) (size bytes : Nat) (ht : P.underlying t = some (.slice e)) (hi : P.info? e = some i) (hz : i.zero = some z)
  (hsize : i.size = size) (hby : i.bytes = bytes) (hzs : z.cells.size = size) (hsz : 0 < size)
  {F : Foot} (a : Option Addr) (n c : Nat) (xs : List Value) (hown : Sl w size F a n c xs) (hlie : Lies w F)
  (a2 : Option Addr) (m c2 : Nat) (news : List Value) (hs : Rd w size a2 m c2 news)
  (h63 : n + m ≤ maxLen) (hbytes : (n + m) * bytes ≤ 140737488355328) :
  ∃ a' c' w' F', (Builtin.append_ #[t, t] ty #[.slice a n c, .slice a2 m c2]).run P w = .ok (.slice a' (n + m) c') w' ∧ Sl w' size F' a' (n + m) c' (xs ++ news) ∧ Fr F w w' ∧ Grew w F F' ∧ Lies w' F' := by
 have hone : ∀ u ∈ xs ++ news, u.oneCell' = true := fun u hu => by
  rcases List.mem_append.1 hu with h | h
  ·exact hown.one u h
  ·exact hs.one u h
 have fresh : ∀ v' w', w'.ownsRow w.heap.size e size v' (n + m) (xs ++ news) → w.grownBy w' none → ∃ a' c' F', v' = .slice a' (n + m) c' ∧ Sl w' size F' a' (n + m) c' (xs ++ news) ∧ Fr F w w' ∧ Grew w F F' ∧ Lies w' F' := by
  intro v' w' ho hg
  obtain ⟨a', c', rfl, hsl⟩ := Sl.ofOwn ho hone
  exact ⟨a', c', _, rfl, hsl, (Fr.grown hg).mono (fun _ _ h => by cases h), fun b o h => .inr h.1, fun b o h => h.2⟩
 cases a2 with
 | none =>
  have hc2 := hs.nil rfl
  have hm : m = 0 := by have := hs.le; omega
  subst hc2; subst hm
  have hn : news = [] := List.eq_nil_of_length_eq_zero (by simpa using hs.len)
  subst hn
  have hle := hown.le
  refine ⟨a, c, w, F, ?_, by simpa using hown, Fr.refl _ _, Grew.refl _ _, hlie⟩
  cases a with
  | none =>
   have := hown.nil rfl
   subst this
   have : n = 0 := by omega
   subst this
   simp [Builtin.append_, run_underlying ht, sizeOf, typeInfo, hi, Builtin.lenOf, Builtin.firstCells]
  | some x => simp [Builtin.append_, run_underlying ht, sizeOf, typeInfo, hi, Builtin.lenOf, Builtin.firstCells, hle, storeCells]
 | some ad =>
  cases a with
  | none =>
   have hc0 := hown.nil rfl
   have hn0 : n = 0 := by have := hown.le; omega
   subst hc0; subst hn0
   have hx : xs = [] := List.eq_nil_of_length_eq_zero (by simpa using hown.len)
   subst hx
   obtain ⟨v', w', hr, h2, h3, _⟩ := run_append_own (P := P) w w.heap.size t ty e i z size bytes ht hi hz hsize hby hzs hsz (.slice none 0 0) 0 [] (World.ownsRow_nil _ _ _ _) ad m c2 news hs.len (hs.cell ad rfl) hs.one h63 hbytes (Nat.le_refl _)
   obtain ⟨a', c', F', rfl, r⟩ := fresh v' w' h2 h3
   exact ⟨a', c', w', F', hr, r⟩
  | some x =>
   by_cases hroom : n + m ≤ c
   ·by_cases hc0 : c = 0
    ·subst hc0
     have : m = 0 := by omega
     subst this
     have : n = 0 := by omega
     subst this
     have hn : news = [] := List.eq_nil_of_length_eq_zero (by simpa using hs.len)
     subst hn
     refine ⟨some x, 0, w, F, ?_, by simpa using hown, Fr.refl _ _, Grew.refl _ _, hlie⟩
     simp [Builtin.append_, run_underlying ht, sizeOf, typeInfo, hi, Builtin.lenOf, Builtin.firstCells, storeCells, loadCells, loadCellsFrom]
    ·have hcs : 0 < c * size := Nat.mul_pos (by omega) hsz
     obtain ⟨b, o, rfl, h1, h2, h3⟩ := hown.at_ x rfl hcs
     have hnl : news.length = m * size := hs.len
     have hbd : n * size + news.length ≤ c * size := by
      rw [hnl, ← Nat.add_mul]
      exact Nat.mul_le_mul_right _ hroom
     have hr := run_append_room_cells (P := P) w t ty e i ht hi b o n c ad m c2 news (by rw [hsize]; exact hnl) (fun j u hj => hs.cell ad rfl j u hj) hs.one hroom (fun j hj => by
      rw [hsize, Nat.add_assoc]; exact (h3 (n * size + j) (by omega)).1) (fun j hj => by
      rw [hsize, Nat.add_assoc]; exact (h3 (n * size + j) (by omega)).2)
     rw [hsize] at hr
     have hfr := Fr.setCells w b (o + n * size) news
     have hin : ∀ k j, rng b (o + n * size) news.length k j → F k j := by
      intro k j ⟨e, hj1, hj2⟩
      subst e
      have := h1 (j - o) (by omega)
      rwa [show o + (j - o) = j by omega] at this
     refine ⟨some ⟨b, o, none⟩, c, _, F, hr, ⟨by rw [List.length_append, hown.len, hnl, Nat.add_mul], hroom, hown.cap, (fun h => by cases h), hone, fun y hy h0 => ?_⟩, hfr.mono hin, Grew.refl _ _, hlie.later hfr⟩
     cases hy
     refine ⟨b, o, rfl, h1, fun j u hu => ?_, fun j hj => ?_⟩
     ·by_cases hjn : j < n * size
      ·rw [List.getElem?_append_left (by rw [hown.len]; exact hjn)] at hu
       rw [World.cell?_setCells_out b news (o + n * size) w ⟨b, o + j, none⟩ (fun _ _ => .inl (by show o + j < o + n * size; omega))]
       exact h2 j u hu
      ·rw [List.getElem?_append_right (by rw [hown.len]; omega), hown.len] at hu
       obtain ⟨hj2, hu2⟩ := List.getElem?_eq_some_iff.1 hu
       have := World.cell?_setCells_in b news (o + n * size) w (fun j hj => by rw [Nat.add_assoc]; exact (h3 (n * size + j) (by omega)).1) (j - n * size) hj2
       rw [show o + n * size + (j - n * size) = o + j by omega] at this
       rw [this, ← hu2]
     ·exact ⟨World.isSome_setCells b news _ w _ (h3 j hj).1, by rw [World.frozen?_setCells]; exact (h3 j hj).2⟩
   ·obtain ⟨v', w', hr, h2, h3⟩ := run_append_arg_grows (P := P) w t ty e i z size bytes ht hi hz hsize hby hzs hsz x n c xs hown.len (fun j u hj => hown.rd.cell x rfl j u hj) ad m c2 news hs.len (fun j u hj => hs.cell ad rfl j u hj) (by omega) h63 hbytes
    obtain ⟨a', c', F', rfl, r⟩ := fresh v' w' h2 h3
    exact ⟨a', c', w', F', hr, r⟩

theorem wpList_app_sl {P : Program} {w : World} {ops : Array Oper} {rest : List Oper} {o : Oper} {a : Act} {Q : Exit → Act → World → Prop} (hgd : o.guard = none) (s x : Operand) (t : TypeId)
  (ho : o.op = .call { callee := .builtin .append, args := #[s, x], argTypes := #[t, t] })
  (e : TypeId) (i : TypeInfo) (z : Value) (size bytes : Nat) (ht : P.underlying t = some (.slice e)) (hi : P.info? e = some i) (hz : i.zero = some z)
  (hsize : i.size = size) (hby : i.bytes = bytes) (hzs : z.cells.size = size) (hsz : 0 < size)
  (F : Foot) (a1 : Option Addr) (n c : Nat) (xs : List Value) (hs : a.eval s = .slice a1 n c) (hown : Sl w size F a1 n c xs) (hlie : Lies w F)
  (a2 : Option Addr) (m c2 : Nat) (news : List Value) (hx : a.eval x = .slice a2 m c2) (hr : Rd w size a2 m c2 news)
  (N : Nat) (ys : List Value) (hN : n + m = N) (hys : xs ++ news = ys) (h63 : N ≤ maxLen) (hbytes : N * bytes ≤ 140737488355328)
  (h : ∀ a' c' w' F', Sl w' size F' a' N c' ys → Fr F w w' → Grew w F F' → Lies w' F' → wpList P ops Q rest (a.put o.dst (.slice a' N c')) w') : wpList P ops Q (o :: rest) a w := by
 subst hN
 subst hys
 refine wpList_plain hgd fun K hK => ?_
 obtain ⟨a', c', w', F', hrun, h2, h3, h4, h5⟩ := run_app_sl (P := P) t o.type e i z size bytes ht hi hz hsize hby hzs hsz a1 n c xs hown hlie a2 m c2 news hr h63 hbytes
 unfold Oper.wp
 simp [execOp, ho, resolve, invoke, builtin, hs, hx, hrun, Result.andThen]
 exact hK _ _ (h _ _ _ _ h2 h3 h4 h5)
theorem Sl.laid {w : World} {size : Nat} {F : Foot} {a : Option Addr} {n c : Nat} {xs : List Value} (h : Sl w size F a n c xs) (o : Obj) : Sl (w.alloc o) size F a n c xs := h.fr ((Fr.refl noCells w).alloc o) (fun _ _ _ h => h)
theorem Lies.laid {w : World} {F : Foot} (h : Lies w F) (o : Obj) : Lies (w.alloc o) F := h.later ((Fr.refl noCells w).alloc o)
theorem byte_snoc (bs : List UInt8) (k : Nat) (z : Int) (h : z = k) (hk : k < 256) : bytesV bs ++ [.int .u8 z] = bytesV (bs ++ [UInt8.ofNat k]) := by
 rw [bytesV_append]
 have : (UInt8.ofNat k).toNat = k := by rw [UInt8.toNat_ofNat']; omega
 simp [bytesV, this, h]
def Loc (size : Nat) (w0 w : World) (a : Option Addr) (n c : Nat) (xs : List Value) : Prop := ∃ F, Sl w size F a n c xs ∧ Lies w F ∧ (∀ b o, F b o → w0.heap.size ≤ b) ∧ Below w0.heap.size w0 w
section
variable {size n c : Nat} {w0 w w' : World} {a : Option Addr} {xs : List Value}
theorem Loc.rd (h : Loc size w0 w a n c xs) : Rd w size a n c xs := by
 obtain ⟨F, h1, _⟩ := h
 exact h1.rd
theorem Loc.low (h : Loc size w0 w a n c xs) : Below w0.heap.size w0 w := by
 obtain ⟨F, _, _, _, h1⟩ := h
 exact h1
theorem Loc.start (size : Nat) (w0 w : World) (hb : Below w0.heap.size w0 w) : Loc size w0 w none 0 0 [] := ⟨noCells, Sl.none_ w size, fun _ _ h => h.elim, fun _ _ h => h.elim, hb⟩
theorem Loc.later (h : Loc size w0 w a n c xs) (hb : Below w.heap.size w w') : Loc size w0 w' a n c xs := by
 obtain ⟨F, h1, h2, h3, h4⟩ := h
 exact ⟨F, h1.fr (Fr.ofBelow hb noCells) (fun _ _ _ h => h), h2.later (Fr.ofBelow hb noCells), h3, h4.trans (hb.mono h4.size)⟩
theorem Loc.app {w2 : World} {F F2 : Foot} {a2 : Option Addr} {N c2 : Nat} {ys : List Value} (h3 : ∀ b o, F b o → w0.heap.size ≤ b) (h4 : Below w0.heap.size w0 w)
  (hs : Sl w2 size F2 a2 N c2 ys) (hfr : Fr F w w2) (hgr : Grew w F F2) (hl : Lies w2 F2) : Loc size w0 w2 a2 N c2 ys := by
 refine ⟨F2, hs, hl, fun b i hb => ?_, h4.trans (hfr.below h4.size h3)⟩
 rcases hgr b i hb with h | h
 ·exact h3 b i h
 ·have := h4.size; omega
theorem Loc.since {w1 : World} (h : Loc size w1 w a n c xs) (hb : Below w0.heap.size w0 w1) : Loc size w0 w a n c xs := by
 obtain ⟨F, h1, h2, h3, h4⟩ := h
 exact ⟨F, h1, h2, fun b o hf => Nat.le_trans hb.size (h3 b o hf), hb.trans (h4.mono hb.size)⟩
end
theorem wpList_app_loc {P : Program} {w : World} {ops : Array Oper} {rest : List Oper} {o : Oper} {a : Act} {Q : Exit → Act → World → Prop} (hgd : o.guard = none) (s x : Operand) (t : TypeId)
  (ho : o.op = .call { callee := .builtin .append, args := #[s, x], argTypes := #[t, t] })
  (e : TypeId) (i : TypeInfo) (z : Value) (size bytes : Nat) (ht : P.underlying t = some (.slice e)) (hi : P.info? e = some i) (hz : i.zero = some z)
  (hsize : i.size = size) (hby : i.bytes = bytes) (hzs : z.cells.size = size) (hsz : 0 < size)
  (w0 : World) (a1 : Option Addr) (n c : Nat) (xs : List Value) (hs : a.eval s = .slice a1 n c) (hown : Loc size w0 w a1 n c xs)
  (a2 : Option Addr) (m c2 : Nat) (news : List Value) (hx : a.eval x = .slice a2 m c2) (hr : Rd w size a2 m c2 news)
  (N : Nat) (ys : List Value) (hN : n + m = N) (hys : xs ++ news = ys) (h63 : N ≤ maxLen) (hbytes : N * bytes ≤ 140737488355328)
  (h : ∀ a' c' w', Loc size w0 w' a' N c' ys → wpList P ops Q rest (a.put o.dst (.slice a' N c')) w') : wpList P ops Q (o :: rest) a w := by
 obtain ⟨F, h1, h2, h3, h4⟩ := hown
 exact wpList_app_sl hgd s x t ho e i z size bytes ht hi hz hsize hby hzs hsz F a1 n c xs hs h1 h2 a2 m c2 news hx hr N ys hN hys h63 hbytes fun a' c' w' F' k1 k2 k3 k4 => h a' c' w' (Loc.app h3 h4 k1 k2 k3 k4)
theorem sl_len {w : World} {F : Foot} {a : Option Addr} {n c : Nat} {bs : List UInt8} (h : Sl w 1 F a n c (bytesV bs)) : n = bs.length := by
 have := h.len
 rw [bytesV_length] at this
 omega
theorem wpList_app_byte {P : Program} {w : World} {ops : Array Oper} {rest : List Oper} {o : Oper} {a : Act} {Q : Exit → Act → World → Prop} (hgd : o.guard = none) (s x : Operand) (t : TypeId)
  (ho : o.op = .call { callee := .builtin .append, args := #[s, x], argTypes := #[t, t] })
  (e : TypeId) (i : TypeInfo) (ht : P.underlying t = some (.slice e)) (hi : P.info? e = some i) (hz : i.zero = some (.int .u8 0)) (hsize : i.size = 1) (hby : i.bytes = 1)
  (F : Foot) (a1 : Option Addr) (c : Nat) (bs : List UInt8) (hs : a.eval s = .slice a1 bs.length c) (hown : Sl w 1 F a1 bs.length c (bytesV bs)) (hlie : Lies w F)
  (z : Int) (k : Nat) (hzk : z = k) (hk : k < 256) (hx : a.eval x = .slice (some ⟨w.heap.size, 0, none⟩) 1 1) (hb : bs.length < 1000000000)
  (h : ∀ a' c' w' F', Sl w' 1 F' a' (bs.length + 1) c' (bytesV (bs ++ [UInt8.ofNat k])) → Fr F (w.alloc (.cells #[.int .u8 z] e)) w' → Grew (w.alloc (.cells #[.int .u8 z] e)) F F' → Lies w' F' → wpList P ops Q rest (a.put o.dst (.slice a' (bs.length + 1) c')) w') : wpList P ops Q (o :: rest) a (w.alloc (.cells #[.int .u8 z] e)) :=
 wpList_app_sl hgd s x t ho e i (.int .u8 0) 1 1 ht hi hz hsize hby rfl (by decide) F a1 bs.length c (bytesV bs) hs (hown.laid _) (hlie.laid _) (some ⟨w.heap.size, 0, none⟩) 1 1 [.int .u8 z] hx (Rd.oneNew w (.int .u8 z) e rfl)
  (bs.length + 1) (bytesV (bs ++ [UInt8.ofNat k])) rfl (byte_snoc bs k z hzk hk) (by unfold maxLen; omega) (by omega) h
end Go.Proofs.YtecnijnmgdfdhaaGreat

namespace Go.Proofs.YtecnijnmgdfdhaaGreat
namespace Ky
open Go
def be : Nat → Nat → List UInt8
 | 0, _ => []
 | k + 1, n => be k (n / 256) ++ [UInt8.ofNat n]
def val (l : List UInt8) : Nat := l.foldl (fun a b => 256 * a + b.toNat) 0
theorem val_snoc (l : List UInt8) (b : UInt8) : val (l ++ [b]) = 256 * val l + b.toNat := by simp [val]
theorem be_length (k n : Nat) : (be k n).length = k := by
 induction k generalizing n with
 | zero => rfl
 | succ k ih => simp [be, ih]
theorem val_be (k n : Nat) : val (be k n) = n % 256 ^ k := by
 induction k generalizing n with
 | zero => simp [be, val, Nat.mod_one]
 | succ k ih =>
  have h : n % 256 ^ (k + 1) = 256 * (n / 256 % 256 ^ k) + n % 256 := by
   rw [Nat.pow_succ, Nat.mul_comm (256 ^ k) 256, Nat.mod_mul]
   omega
  rw [be, val_snoc, ih, h]
  simp
theorem exists_snoc {l : List UInt8} {k : Nat} (h : l.length = k + 1) : ∃ i b, l = i ++ [b] ∧ i.length = k := by
 have hne : l ≠ [] := by rintro rfl; simp at h
 refine ⟨l.dropLast, l.getLast hne, (List.dropLast_concat_getLast hne).symm, by simp; omega⟩
theorem be_val (l : List UInt8) : be l.length (val l) = l := by
 generalize hk : l.length = k
 induction k generalizing l with
 | zero => rw [List.eq_nil_of_length_eq_zero hk]; rfl
 | succ k ih =>
  obtain ⟨i, b, rfl, hi⟩ := exists_snoc hk
  have hb := b.toNat_lt
  rw [be, val_snoc, show (256 * val i + b.toNat) / 256 = val i by omega, ih i hi]
  congr 2
  refine UInt8.toNat_inj.1 ?_
  rw [UInt8.toNat_ofNat']
  omega
theorem val_lt (l : List UInt8) : val l < 256 ^ l.length := by
 have h := val_be l.length (val l)
 rw [be_val] at h
 rw [h]
 exact Nat.mod_lt _ (Nat.pow_pos (by decide))
def nat (v : Int) : Nat := (v + 9223372036854775808).toNat
def enc (v : Int) : List UInt8 := be 8 (nat v)
def dec (l : List UInt8) : Int := (val l : Int) - 9223372036854775808
def In (v : Int) : Prop := -9223372036854775808 ≤ v ∧ v ≤ 9223372036854775807
theorem enc_length (v : Int) : (enc v).length = 8 := be_length 8 _
theorem val_enc {v : Int} (h : In v) : val (enc v) = nat v := by
 rw [enc, val_be, nat]
 unfold In at h
 exact Nat.mod_eq_of_lt (by omega)
theorem dec_enc {v : Int} (h : In v) : dec (enc v) = v := by
 rw [dec, val_enc h, nat]
 unfold In at h
 omega
theorem enc_inj {v w : Int} (hv : In v) (hw : In w) (h : enc v = enc w) : v = w := by
 rw [← dec_enc hv, ← dec_enc hw, h]
abbrev less := Op.bytesLess
theorem less_nil_left (y : List UInt8) : less [] y = !y.isEmpty := by cases y <;> rfl
theorem less_nil_right (x : List UInt8) : less x [] = false := by cases x <;> rfl
theorem less_self (x : List UInt8) : less x x = false := by
 induction x with
 | nil => rfl
 | cons a x ih => simp [Op.bytesLess, ih]
theorem less_append (x y a b : List UInt8) (h : x.length = y.length) : less (x ++ a) (y ++ b) = (less x y || (x == y && less a b)) := by
 induction x generalizing y with
 | nil =>
  have : y = [] := List.eq_nil_of_length_eq_zero h.symm
  subst this
  simp [Op.bytesLess]
 | cons c x ih =>
  match y, h with
  | d :: y, h =>
   have h' : x.length = y.length := by simpa using h
   simp only [List.cons_append, Op.bytesLess, ih y h', List.cons_beq_cons]
   cases c == d <;> cases decide (c < d) <;> simp
def vl : List UInt8 → Nat
 | [] => 0
 | b :: bs => b.toNat * 256 ^ bs.length + vl bs
theorem vl_snoc (l : List UInt8) (b : UInt8) : vl (l ++ [b]) = 256 * vl l + b.toNat := by
 induction l with
 | nil => simp [vl]
 | cons c l ih =>
  rw [List.cons_append, vl, ih, vl, List.length_append, List.length_singleton, Nat.pow_succ, Nat.mul_add, Nat.mul_comm (256 ^ l.length) 256, Nat.mul_left_comm]
  omega
theorem vl_eq (l : List UInt8) : vl l = val l := by
 generalize hk : l.length = k
 induction k generalizing l with
 | zero => rw [List.eq_nil_of_length_eq_zero hk]; rfl
 | succ k ih =>
  obtain ⟨i, b, rfl, hi⟩ := exists_snoc hk
  rw [vl_snoc, val_snoc, ih i hi]
theorem less_val (x y : List UInt8) (h : x.length = y.length) : less x y = decide (val x < val y) := by
 rw [← vl_eq, ← vl_eq]
 induction x generalizing y with
 | nil =>
  have : y = [] := List.eq_nil_of_length_eq_zero h.symm
  subst this
  simp [Op.bytesLess, vl]
 | cons c x ih =>
  match y, h with
  | d :: y, h =>
   have h' : x.length = y.length := by simpa using h
   have hx : vl x < 256 ^ x.length := by rw [vl_eq]; exact val_lt x
   have hy : vl y < 256 ^ x.length := by rw [vl_eq, h']; exact val_lt y
   simp only [Op.bytesLess, ih y h', vl, ← h']
   rw [Bool.eq_iff_iff]
   simp only [Bool.or_eq_true, decide_eq_true_eq, Bool.and_eq_true, beq_iff_eq, UInt8.lt_iff_toNat_lt]
   generalize 256 ^ x.length = p at *
   constructor
   ·rintro (h1 | ⟨rfl, h1⟩)
    ·have : (c.toNat + 1) * p ≤ d.toNat * p := Nat.mul_le_mul_right _ h1
     rw [Nat.add_mul] at this
     omega
    ·omega
   ·intro h1
    rcases Nat.lt_trichotomy c.toNat d.toNat with h2 | h2 | h2
    ·exact .inl h2
    ·exact .inr ⟨UInt8.toNat_inj.1 h2, by rw [h2] at h1; omega⟩
    ·have : (d.toNat + 1) * p ≤ c.toNat * p := Nat.mul_le_mul_right _ h2
     rw [Nat.add_mul] at this
     omega
theorem less_enc {v w : Int} (hv : In v) (hw : In w) : less (enc v) (enc w) = decide (v < w) := by
 rw [less_val _ _ (by rw [enc_length, enc_length]), val_enc hv, val_enc hw]
 unfold nat In at *
 rw [Bool.eq_iff_iff]
 simp only [decide_eq_true_eq]
 omega
def cmpS (s t : List UInt8) : Int := if less s t then -1 else if less t s then 1 else 0
def cmpE (v : Int) (s : List UInt8) (w : Int) (t : List UInt8) : Int := if v < w then -1 else if w < v then 1 else cmpS s t
theorem less_trich (s t : List UInt8) : s = t ∨ less s t = true ∨ less t s = true := by
 induction s generalizing t with
 | nil => cases t <;> simp [Op.bytesLess]
 | cons a s ih =>
  match t with
  | [] => simp [Op.bytesLess]
  | b :: t =>
   rcases Nat.lt_trichotomy a.toNat b.toNat with h | h | h
   ·exact .inr (.inl (by simp [Op.bytesLess, UInt8.lt_iff_toNat_lt, h]))
   ·have hab : a = b := UInt8.toNat_inj.1 h
    subst hab
    rcases ih t with rfl | h1 | h1
    ·exact .inl rfl
    ·exact .inr (.inl (by simp [Op.bytesLess, h1]))
    ·exact .inr (.inr (by simp [Op.bytesLess, h1]))
   ·exact .inr (.inr (by simp [Op.bytesLess, UInt8.lt_iff_toNat_lt, h]))
theorem less_asymm {s t : List UInt8} (h : less s t = true) : less t s = false := by
 induction s generalizing t with
 | nil => cases t <;> simp_all [Op.bytesLess]
 | cons a s ih =>
  match t, h with
  | b :: t, h =>
   simp only [Op.bytesLess, Bool.or_eq_true, decide_eq_true_eq, Bool.and_eq_true, beq_iff_eq, UInt8.lt_iff_toNat_lt] at h
   simp only [Op.bytesLess, Bool.or_eq_false_iff, decide_eq_false_iff_not, UInt8.lt_iff_toNat_lt, Bool.and_eq_false_iff, beq_eq_false_iff_ne]
   rcases h with h | ⟨rfl, h⟩
   ·exact ⟨by omega, .inl (fun e => by rw [e] at h; omega)⟩
   ·exact ⟨by omega, .inr (ih h)⟩
theorem cmpS_self (s : List UInt8) : cmpS s s = 0 := by simp [cmpS, less_self]
theorem cmpS_zero {s t : List UInt8} : cmpS s t = 0 ↔ s = t := by
 constructor
 ·intro h
  rcases less_trich s t with h1 | h1 | h1
  ·exact h1
  ·simp [cmpS, h1] at h
  ·have := less_asymm h1; simp [cmpS, h1, this] at h
 ·rintro rfl; exact cmpS_self s
theorem cmpS_neg {s t : List UInt8} : cmpS s t < 0 ↔ less s t = true := by
 unfold cmpS
 by_cases h : less s t = true
 ·simp [h]
 ·have h' : less s t = false := by simpa using h
  simp only [h']
  by_cases h2 : less t s = true <;> simp [h2]
def put (v : Int) (s : List UInt8) : List UInt8 := enc v ++ s
theorem put_less {v w : Int} (hv : In v) (hw : In w) (s t : List UInt8) : less (put v s) (put w t) = decide (cmpE v s w t < 0) := by
 unfold put
 rw [less_append _ _ _ _ (by rw [enc_length, enc_length]), less_enc hv hw, Bool.eq_iff_iff]
 simp only [Bool.or_eq_true, decide_eq_true_eq, Bool.and_eq_true, beq_iff_eq]
 unfold cmpE
 by_cases h1 : v < w
 ·simp [h1]
 ·by_cases h2 : w < v
  ·have : ¬ enc v = enc w := fun e => by have := enc_inj hv hw e; omega
   simp [h1, h2, this]
  ·have : v = w := by omega
   subst this
   simp [cmpS_neg]
theorem put_inj {v w : Int} (hv : In v) (hw : In w) (s t : List UInt8) : put v s = put w t ↔ v = w ∧ s = t := by
 constructor
 ·intro h
  have h1 := List.append_inj h (by rw [enc_length, enc_length])
  exact ⟨enc_inj hv hw h1.1, h1.2⟩
 ·rintro ⟨rfl, rfl⟩; rfl
theorem cmpE_zero {v w : Int} {s t : List UInt8} : cmpE v s w t = 0 ↔ v = w ∧ s = t := by
 unfold cmpE
 by_cases h1 : v < w
 ·simp [h1]; omega
 ·by_cases h2 : w < v
  ·simp [h1, h2]; omega
  ·have : v = w := by omega
   subst this
   simp [cmpS_zero]
theorem cmpE_swap (v : Int) (s : List UInt8) (w : Int) (t : List UInt8) : cmpE w t v s = - cmpE v s w t := by
 have hS : cmpS t s = - cmpS s t := by
  unfold cmpS
  by_cases h : less s t = true
  ·have := less_asymm h; simp [h, this]
  ·by_cases h2 : less t s = true <;> simp [h, h2]
 unfold cmpE
 by_cases h1 : v < w
 ·have : ¬ w < v := by omega
  simp [h1, this]
 ·by_cases h2 : w < v
  ·simp [h1, h2]
  ·simp [h1, h2, hS]
theorem cmpE_range (v : Int) (s : List UInt8) (w : Int) (t : List UInt8) : cmpE v s w t = -1 ∨ cmpE v s w t = 0 ∨ cmpE v s w t = 1 := by
 unfold cmpE cmpS
 (repeat' split) <;> simp
end Ky
end Go.Proofs.YtecnijnmgdfdhaaGreat

namespace Go.Proofs.YtecnijnmgdfdhaaGreat
open Go.RowKit

theorem Sl.put {w : World} {size : Nat} {F : Foot} {b o n c : Nat} {xs : List Value} (h : Sl w size F (some ⟨b, o, none⟩) n c xs) (hs : 0 < size) (i : Nat) (hi : i < n) (cs : List Value) (hcs : cs.length = size) (h1 : ∀ u ∈ cs, u.oneCell' = true)
  (ys : List Value) (hy : ys = xs.take (i * size) ++ cs ++ xs.drop ((i + 1) * size)) :
  w.there b (o + i * size) size ∧ Sl (w.setCells b (o + i * size) cs) size F (some ⟨b, o, none⟩) n c ys ∧ Fr F w (w.setCells b (o + i * size) cs) := by
 have hlen := h.len
 have hle := h.le
 have him : i * size + size ≤ n * size := by
  have := Nat.mul_le_mul_right size (show i + 1 ≤ n by omega)
  rw [Nat.add_mul, Nat.one_mul] at this
  exact this
 have hnc : n * size ≤ c * size := Nat.mul_le_mul_right size hle
 obtain ⟨b', o', e, g1, g2, g3⟩ := h.at_ _ rfl (by omega)
 cases e
 have hth : w.there b (o + i * size) size := fun j hj => by
  have := g3 (i * size + j) (by omega)
  rw [← Nat.add_assoc] at this
  exact this
 have hfr : Fr F w (w.setCells b (o + i * size) cs) := (Fr.setCells w b (o + i * size) cs).mono fun b2 o2 hr => by
  obtain ⟨e, h2, h3⟩ := hr
  subst e
  rw [hcs] at h3
  have := g1 (o2 - o) (by omega)
  rw [show o + (o2 - o) = o2 by omega] at this
  exact this
 have hyl : ys.length = n * size := by
  rw [hy, List.length_append, List.length_append, List.length_take, List.length_drop, hcs, hlen, Nat.add_mul, Nat.one_mul]
  omega
 refine ⟨hth, ⟨hyl, h.le, h.cap, h.nil, fun u hu => ?_, fun x hx h0 => ?_⟩, hfr⟩
 ·rw [hy] at hu
  rcases List.mem_append.1 hu with hu | hu
  ·rcases List.mem_append.1 hu with hu | hu
   ·exact h.one u (List.mem_of_mem_take hu)
   ·exact h1 u hu
  ·exact h.one u (List.mem_of_mem_drop hu)
 ·cases hx
  refine ⟨b, o, rfl, g1, fun j u hu => ?_, fun j hj => ?_⟩
  ·rw [hy] at hu
   by_cases ha : j < i * size
   ·rw [List.append_assoc, List.getElem?_append_left (by rw [List.length_take]; omega), List.getElem?_take_of_lt ha] at hu
    rw [World.cell?_setCells_out b cs (o + i * size) w ⟨b, o + j, none⟩ (fun _ _ => by left; show o + j < _; omega)]
    exact g2 j u hu
   ·by_cases hb : j < i * size + size
    ·rw [List.append_assoc, List.getElem?_append_right (by rw [List.length_take]; omega), List.getElem?_append_left (by rw [List.length_take]; omega), List.length_take, Nat.min_eq_left (by omega)] at hu
     have := World.rangeAt_setCells_same w b (o + i * size) cs (by rw [hcs]; exact hth) (j - i * size) u hu
     rw [show o + i * size + (j - i * size) = o + j by omega] at this
     exact this
    ·rw [List.getElem?_append_right (by rw [List.length_append, List.length_take]; omega), List.length_append, List.length_take, Nat.min_eq_left (by omega), List.getElem?_drop, hcs, Nat.add_mul, Nat.one_mul, show i * size + size + (j - (i * size + size)) = j by omega] at hu
     rw [World.cell?_setCells_out b cs (o + i * size) w ⟨b, o + j, none⟩ (fun _ _ => by right; show o + i * size + cs.length ≤ o + j; omega)]
     exact g2 j u hu
  ·obtain ⟨k1, k2⟩ := g3 j hj
   refine ⟨?_, by rw [World.frozen?_setCells]; exact k2⟩
   by_cases ha : i * size ≤ j ∧ j < i * size + size
   ·have hu : cs[j - i * size]? = some (cs[j - i * size]'(by omega)) := List.getElem?_eq_getElem (by omega)
    have := World.rangeAt_setCells_same w b (o + i * size) cs (by rw [hcs]; exact hth) (j - i * size) _ hu
    rw [show o + i * size + (j - i * size) = o + j by omega] at this
    rw [this]; rfl
   ·rw [World.cell?_setCells_out b cs (o + i * size) w ⟨b, o + j, none⟩ (fun _ _ => by
     by_cases hj1 : j < i * size
     ·left; show o + j < _; omega
     ·right; show o + i * size + cs.length ≤ o + j; omega)]
    exact k1
end Go.Proofs.YtecnijnmgdfdhaaGreat
