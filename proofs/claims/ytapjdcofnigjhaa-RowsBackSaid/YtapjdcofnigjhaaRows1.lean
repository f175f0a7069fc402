/- Package rows: what turns in indexes; plain lists, and the walks of column, and, Changes. -/
import Derived.Test.YtapjdcofnigjhaaField2
import Derived.Test.YtapjdcofnigjhaaRowsEq
namespace Go.Proofs.Ytapjdcofnigjhaa
open Go.RowKit

/-- An entry that turns: column, value, whether it comes in. -/
abbrev Chg := Nat × Int × Bool
def chgCol (i : Nat) (old now : Option (Nat → Int)) : List Chg := (match old with | some f => [(i, f i, false)] | none => []) ++ (match now with | some f => [(i, f i, true)] | none => [])
def keepB (i : Nat) (old now : Option (Nat → Int)) : Bool := match old, now with | some f, some g => f i == g i | _, _ => false
def chgAt (i : Nat) (old now : Option (Nat → Int)) : List Chg := if keepB i old now then [] else chgCol i old now
def chgs (k : Nat) (old now : Option (Nat → Int)) : List Chg := (List.range k).flatMap fun i => chgAt i old now
theorem chgs_succ (k : Nat) (old now : Option (Nat → Int)) : chgs (k + 1) old now = chgs k old now ++ chgAt k old now := by
  unfold chgs
  rw [List.range_succ, List.flatMap_append]
  simp
theorem chgCol_len (i : Nat) (old now : Option (Nat → Int)) : (chgCol i old now).length ≤ 2 := by
  unfold chgCol
  cases old <;> cases now <;> simp
theorem chgAt_len (i : Nat) (old now : Option (Nat → Int)) : (chgAt i old now).length ≤ 2 := by
  unfold chgAt
  split
  · simp
  · exact chgCol_len i old now
theorem chgs_len (k : Nat) (old now : Option (Nat → Int)) : (chgs k old now).length ≤ 2 * k := by
  induction k with
  | zero => simp [chgs]
  | succ k ih =>
    rw [chgs_succ, List.length_append]
    have := chgAt_len k old now
    omega
/-- As cells, of a key. -/
def chgV (k : List UInt8) (L : List Chg) : List Value := L.flatMap fun x => [.int .i64 (x.1 : Int), .int .i64 x.2.1, .string ⟨k.toArray⟩, .bool x.2.2]
theorem chgV_length (k : List UInt8) (L : List Chg) : (chgV k L).length = L.length * 4 := by
  induction L with
  | nil => rfl
  | cons x L ih =>
    have : chgV k (x :: L) = [.int .i64 (x.1 : Int), .int .i64 x.2.1, .string ⟨k.toArray⟩, .bool x.2.2] ++ chgV k L := rfl
    rw [this, List.length_append, ih]
    simp
    omega
theorem chgV_append (k : List UInt8) (L M : List Chg) : chgV k (L ++ M) = chgV k L ++ chgV k M := by simp [chgV]
theorem chgV_one (k : List UInt8) (L : List Chg) : ∀ u ∈ chgV k L, u.oneCell' = true := by
  intro u hu
  obtain ⟨e, _, h⟩ := List.mem_flatMap.1 hu
  simp only [List.mem_cons, List.not_mem_nil, or_false] at h
  rcases h with rfl | rfl | rfl | rfl <;> rfl
/-- A pointer to a row, or nil. -/
def ptrV : Option (Nat × Nat) → Value
  | none => .pointer none
  | some (b, o) => .pointer (some ⟨b, o, none⟩)
def PtrAt (w : World) : Option (Nat × Nat) → Option (Nat → Int) → Prop
  | none, none => True
  | some (b, o), some f => ∀ i, i < 4 → w.cell? ⟨b, o + i, none⟩ = some (.int .i64 (f i))
  | _, _ => False
theorem PtrAt.later {w w' : World} {p : Option (Nat × Nat)} {f : Option (Nat → Int)} (h : PtrAt w p f) (hb : Below w.heap.size w w') : PtrAt w' p f := by
  cases p <;> cases f
  · trivial
  · exact h.elim
  · exact h.elim
  · exact fun i hi => old_cell (h i hi) hb
theorem Try.infoChg : (Try.prog.info? 42).map (fun i => (i.zero, i.size, i.bytes)) = some (some (.agg #[.int .i64 0, .int .i64 0, .string ⟨#[]⟩, .bool false]), 4, 40) := by kernel_rfl
theorem and_any (w0 : World) (a : Option Addr) (n c : Nat) (xs : List Value) (a2 : Option Addr) (m c2 : Nat) (news : List Value) (hn : n + m ≤ 1000) (w : World) (hl : Loc 4 w0 w a n c xs) (hr : Rd w 4 a2 m c2 news) :
    Calls Try.prog 40 #[.slice a n c, .slice a2 m c2] w fun e w' => ∃ a' c', e = .returned (.slice a' (n + m) c') ∧ Loc 4 w0 w' a' (n + m) c' (xs ++ news) := by
  obtain ⟨i0, hi, hz0, hz1, hz2⟩ := info_parts Try.infoChg
  have HL := Lib.hid hl
  have HR := Lib.hid hr
  clear hl hr
  go_enter Try.func40, Try.ntmps40
  go_wp2_with (at_builtin; refine wpList_app_loc rfl (.tmp 5) (.tmp 6) 31 rfl 42 i0 _ 4 40 Try.underlying31 hi hz0 hz1 hz2 rfl (by decide) w0 a n c xs rfl HL.out a2 m c2 news rfl HR.out (n + m) (xs ++ news) rfl rfl (by unfold maxLen; omega) (by omega) ?_; intro a' c' w' ho; have HO := Lib.hid ho; clear ho)
  go_ret
  exact ⟨a', c', rfl, HO.out⟩
end Go.Proofs.Ytapjdcofnigjhaa
