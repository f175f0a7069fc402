/- The walk of KeysSorts. -/
import Derived.Test.YtakgpljpdcjmfaaKeysSort1
import Derived.Test.YtakgpljpdcjmfaaOwn
import Derived.Deep.LoopGhost
namespace Go.Proofs.Ytakgpljpdcjmfaa
open Go.RowKit

theorem infoEnt : (Try.prog.info? 23).map (fun i => (i.zero, i.size, i.bytes)) = some (some (.agg #[.int .i64 0, .string ⟨#[]⟩]), 2, 24) := by kernel_rfl
theorem infoStr : (Try.prog.info? 9).map (fun i => (i.zero, i.size, i.bytes)) = some (some (.string ⟨#[]⟩), 1, 16) := by kernel_rfl
theorem sizeEnt (w : World) : (sizeOf (Try.prog.elem 43)).run Try.prog w = .ok 2 w := by kernel_rfl
theorem sizeStr (w : World) : (sizeOf (Try.prog.elem 44)).run Try.prog w = .ok 1 w := by kernel_rfl

/-- The two rows, sorted so far. -/
structure Srt (w0 wr : World) (a1 : Option Addr) (c1 : Nat) (a2 : Option Addr) (c2 : Nat) (L : List Ent) : Prop where
  s : wr.ownsRow w0.heap.size 23 2 (.slice a1 L.length c1) L.length (cellsE L)
  b : wr.ownsRow w0.heap.size 9 1 (.slice a2 L.length c2) L.length (cellsS L)
  low : Below w0.heap.size w0 wr
  up : Rises L
theorem Srt.later {w0 wr w' : World} {a1 a2 : Option Addr} {c1 c2 : Nat} {L : List Ent} (h : Srt w0 wr a1 c1 a2 c2 L) (hb : Below wr.heap.size wr w') : Srt w0 w' a1 c1 a2 c2 L :=
  ⟨own_later h.s hb, own_later h.b hb, h.low.trans (hb.mono h.low.size), h.up⟩
theorem Srt.start (w0 : World) : Srt w0 w0 none 0 none 0 [] := ⟨World.ownsRow_nil _ _ _ _, World.ownsRow_nil _ _ _ _, Below.refl _ _, Rises.nil⟩
/-- While an entry is put in: two rows beside them, of the round's own. -/
structure Ins (w0 w1 W : World) (a1 : Option Addr) (c1 : Nat) (a2 : Option Addr) (c2 : Nat) (L : List Ent) (a3 : Option Addr) (n3 c3 : Nat) (A : List Value) (a4 : Option Addr) (n4 c4 : Nat) (B : List Value) : Prop where
  s : W.ownsRow w0.heap.size 23 2 (.slice a1 L.length c1) L.length (cellsE L)
  b : W.ownsRow w0.heap.size 9 1 (.slice a2 L.length c2) L.length (cellsS L)
  s1 : w1.ownsRow w0.heap.size 23 2 (.slice a1 L.length c1) L.length (cellsE L)
  b1 : w1.ownsRow w0.heap.size 9 1 (.slice a2 L.length c2) L.length (cellsS L)
  low0 : w0.heap.size ≤ w1.heap.size
  low : Below w0.heap.size w0 W
  size : w1.heap.size ≤ W.heap.size
  oa : W.ownsRow w1.heap.size 23 2 (.slice a3 n3 c3) n3 A
  ob : W.ownsRow w1.heap.size 9 1 (.slice a4 n4 c4) n4 B
section
variable {w0 w1 W W' : World} {a1 a2 a3 a4 a' : Option Addr} {c1 c2 n3 c3 n4 c4 n' c' : Nat} {L : List Ent} {A B A' B' : List Value}
theorem Srt.ins (h : Srt w0 w1 a1 c1 a2 c2 L) : Ins w0 w1 w1 a1 c1 a2 c2 L none 0 0 [] none 0 0 [] :=
  ⟨h.s, h.b, h.s, h.b, h.low.size, h.low, Nat.le_refl _, World.ownsRow_nil _ _ _ _, World.ownsRow_nil _ _ _ _⟩
theorem Ins.later (h : Ins w0 w1 W a1 c1 a2 c2 L a3 n3 c3 A a4 n4 c4 B) (hb : Below W.heap.size W W') : Ins w0 w1 W' a1 c1 a2 c2 L a3 n3 c3 A a4 n4 c4 B :=
  ⟨own_later h.s hb, own_later h.b hb, h.s1, h.b1, h.low0, h.low.trans (hb.mono h.low.size), Nat.le_trans h.size hb.size, own_later h.oa hb, own_later h.ob hb⟩
theorem Ins.growA (h : Ins w0 w1 W a1 c1 a2 c2 L a3 n3 c3 A a4 n4 c4 B) (hg : W.grownBy W' (Value.slice a3 n3 c3).ownBlock) (ho : W'.ownsRow w1.heap.size 23 2 (.slice a' n' c') n' A') : Ins w0 w1 W' a1 c1 a2 c2 L a' n' c' A' a4 n4 c4 B :=
  ⟨h.s.kept hg (own_low h.s1 (Nat.le_refl _) h.oa), h.b.kept hg (own_types h.b h.oa (by decide)), h.s1, h.b1, h.low0, below_row h.low h.low0 h.oa hg h.low.size, Nat.le_trans h.size hg.size, ho, h.ob.kept hg (own_types h.ob h.oa (by decide))⟩
theorem Ins.growB (h : Ins w0 w1 W a1 c1 a2 c2 L a3 n3 c3 A a4 n4 c4 B) (hg : W.grownBy W' (Value.slice a4 n4 c4).ownBlock) (ho : W'.ownsRow w1.heap.size 9 1 (.slice a' n' c') n' B') : Ins w0 w1 W' a1 c1 a2 c2 L a3 n3 c3 A a' n' c' B' :=
  ⟨h.s.kept hg (own_types h.s h.ob (by decide)), h.b.kept hg (own_low h.b1 (Nat.le_refl _) h.ob), h.s1, h.b1, h.low0, below_row h.low h.low0 h.ob hg h.low.size, Nat.le_trans h.size hg.size, h.oa.kept hg (own_types h.oa h.ob (by decide)), ho⟩
theorem Ins.done {L' : List Ent} (h : Ins w0 w1 W a1 c1 a2 c2 L a3 L'.length c3 (cellsE L') a4 L'.length c4 (cellsS L')) (hu : Rises L') : Srt w0 W a3 c3 a4 c4 L' :=
  ⟨own_up h.oa h.low0, own_up h.ob h.low0, h.low, hu⟩
end
theorem slice_len {a : Option Addr} {n m c : Nat} (h : n = m) : Value.slice a n c = .slice a m c := by rw [h]
theorem len_ins {L : List Ent} {x : Ent} {n : Nat} (h : n ≤ L.length) : (L.take n ++ [x] ++ L.drop n).length = L.length + 1 := by
  rw [List.length_append, List.length_append, List.length_take, List.length_drop, List.length_singleton]; omega
theorem cells_ins1 {L : List Ent} {x : Ent} {n : Nat} : cellsE (L.take n) ++ [.int .i64 x.1, .string ⟨x.2.toArray⟩] = cellsE (L.take n ++ [x]) := by rw [cellsE_append]; rfl
theorem cells_ins2 {L : List Ent} {x : Ent} {n : Nat} : cellsE (L.take n ++ [x]) ++ (cellsE L).drop (n * 2) = cellsE (L.take n ++ [x] ++ L.drop n) := by rw [cellsE_drop, cellsE_append (L.take n ++ [x])]
theorem cells_ins3 {L : List Ent} {x : Ent} {n : Nat} : cellsS (L.take n) ++ [.string ⟨(Ky.put x.1 x.2).toArray⟩] = cellsS (L.take n ++ [x]) := by rw [cellsS_append]; rfl
theorem cells_ins4 {L : List Ent} {x : Ent} {n : Nat} : cellsS (L.take n ++ [x]) ++ (cellsS L).drop (n * 1) = cellsS (L.take n ++ [x] ++ L.drop n) := by rw [Nat.mul_one, cellsS_drop, cellsS_append (L.take n ++ [x])]
/-- An entry of the rows, where it lies. -/
theorem Srt.at {w0 wr : World} {a1 a2 : Option Addr} {c1 c2 : Nat} {L : List Ent} (h : Srt w0 wr a1 c1 a2 c2 L) {k : Nat} {e : Ent} (hk : L[k]? = some e) :
    ∃ b o, a2 = some ⟨b, o, none⟩ ∧ wr.cell? ⟨b, o + k, none⟩ = some (.string ⟨(Ky.put e.1 e.2).toArray⟩) := by
  have hr := Rd.row h.b (cellsS_one L)
  obtain ⟨b, o, h1, h2⟩ := hr.addr (by
    intro h0
    have := cellsS_get hk
    rw [h0] at this
    simp at this)
  exact ⟨b, o, h1, h2 k _ (cellsS_get hk)⟩

theorem rdE_at2 {w : World} {b o n c : Nat} {L : List Ent} (h : Rd w 2 (some ⟨b, o, none⟩) n c (cellsE L)) {k : Nat} {e : Ent} (hk : L[k]? = some e) :
    w.cell? ⟨b, o + k * 2, none⟩ = some (.int .i64 e.1) ∧ w.cell? ⟨b, o + k * 2 + 1, none⟩ = some (.string ⟨e.2.toArray⟩) := by
  obtain ⟨b', o', h1, h2⟩ := rdE_at h hk
  simp only [Option.some.injEq, Addr.mk.injEq, and_true] at h1
  obtain ⟨rfl, rfl⟩ := h1
  exact h2

set_option maxRecDepth 100000 in
set_option maxHeartbeats 4000000 in
theorem sorts_walk (a : Option Addr) (c : Nat) (X : List Ent) (w : World) (hr : Rd w 2 a X.length c (cellsE X)) (hin : ∀ e ∈ X, Ky.In e.1) :
    Calls Try.prog 8 #[.slice a X.length c] w (Yes w) := by
  by_cases h1 : 20 < X.length
  · clear hin
    go_enter Try.func8, Try.ntmps8
    go_wp2_with (go_at_call 9; refine (awake_any _).mono ?_; rintro e w2 ⟨rfl, hb⟩; have HB := Lib.hid hb; clear hb)
    go_ret
    exact ⟨rfl, HB.out⟩
  have HR := Lib.hid hr
  have HI := Lib.hid hin
  clear hr hin
  obtain ⟨iE, hiE, hzE, hsE, hbE⟩ := info_parts infoEnt
  obtain ⟨iS, hiS, hzS, hsS, hbS⟩ := info_parts infoStr
  go_enter Try.func8, Try.ntmps8
  go_wp2
  go_loopw [3, 4, 5] (fun s b i wr => ∃ (k : Nat) (a1 : Option Addr) (c1 : Nat) (a2 : Option Addr) (c2 : Nat) (L : List Ent), k ≤ X.length ∧ L.length ≤ k ∧ i = .int .i64 k ∧ s = .slice a1 L.length c1 ∧ b = .slice a2 L.length c2 ∧
    Hid (Srt w wr a1 c1 a2 c2 L)) (fun _ _ i _ => X.length - (intOf i).toNat)
  case atStart => exact ⟨0, none, 0, none, 0, [], by omega, by simp, rfl, rfl, rfl, Lib.hid (Srt.start w)⟩
  case round =>
    obtain ⟨k, a1, c1, a2, c2, L, hk, hL, rfl, rfl, rfl, HS⟩ := hrel
    by_cases hlt : k < X.length
    · obtain ⟨⟨v, t⟩, hx⟩ : ∃ e, X[k]? = some e := ⟨_, List.getElem?_eq_getElem hlt⟩
      have hv := HI.out _ (List.mem_of_getElem? hx)
      obtain ⟨b, o, rfl, e0, e1⟩ := rdE_at (HR.out.later (HS.out.low)) hx
      have HX := Lib.hid hx
      clear hx
      by_cases ok : okKey t = true
      · have HP := Lib.hid (put_good v hv t · ok)
        have hk16 : t.length ≤ 16 := by unfold okKey at ok; simp at ok; omega
        have HU : Hid (Ky.In (v, t).1 ∧ okKey (v, t).2 = true) := Lib.hid ⟨hv, ok⟩
        clear ok hv
        go_wp2_with (first
          | (go_at_call 10; with_reducible refine (HP.out _).mono ?_; rintro e w1 ⟨rfl, hb⟩; have f1 := old_cell e1 hb; have f0 := old_cell e0 hb; have HT := Lib.hid (HS.out.later hb); clear hb HS HP e0 e1))
        go_loop [8] (fun nn => ∃ n : Nat, n ≤ L.length ∧ nn = .int .i64 n ∧ Hid (∀ e ∈ L.take n, leE e (v, t))) (fun nn => L.length - (intOf nn).toNat)
        case atStart => exact ⟨0, Nat.zero_le _, rfl, Lib.hid (fun _ h => by simp at h)⟩
        case round =>
          obtain ⟨n, hn, rfl, HLe⟩ := hrel
          by_cases hnl : n < L.length
          · obtain ⟨⟨y, q⟩, hy⟩ : ∃ e, L[n]? = some e := ⟨_, List.getElem?_eq_getElem hnl⟩
            have hyin := (HT.out.up.all _ (List.mem_of_getElem? hy)).1
            have hle := leE_of_bytes (a := (y, q)) (b := (v, t)) hyin HU.out.1
            have HLE := Lib.hid hle
            have hcmp := str_leq 9 (Ky.put y q) (Ky.put v t)
            by_cases hless : Op.bytesLess (Ky.put v t) (Ky.put y q) = true
            · rw [hless] at hcmp
              have HEnd : Hid (∀ e, L[n]? = some e → ¬ leE e (v, t)) := Lib.hid (by
                intro e he h
                rw [hy] at he
                obtain rfl := Option.some.inj he
                have := HLE.out.1 h
                exact absurd (hless.symm.trans this) (by decide))
              obtain ⟨b2, o2, rfl, ce⟩ := HT.out.at hy
              clear hy hle HLE hless hyin
              have HN := Lib.hid (HT.out.up.insert (x := (v, t)) HU.out hn HLe.out HEnd.out)
              have HRA := Lib.hid (show Rd w1 2 a1 n c1 (cellsE (L.take n)) by have := (Rd.row HT.out.s (cellsE_one L)).to n hn; rwa [cellsE_take] at this)
              have HRB := Lib.hid (show Rd w1 1 (some ⟨b2, o2, none⟩) n c2 (cellsS (L.take n)) by have := (Rd.row HT.out.b (cellsS_one L)).to n hn; rwa [Nat.mul_one, cellsS_take] at this)
              have hc1 : L.length ≤ c1 := (Rd.row HT.out.s (cellsE_one L)).le
              have hc2 : L.length ≤ c2 := (Rd.row HT.out.b (cellsS_one L)).le
              have hs1 := to_ex (P := Try.prog) 43 Try.underlying43 2 sizeEnt a1 L.length c1 .i64 n (by omega)
              have hs2 := to_ex (P := Try.prog) 44 Try.underlying44 1 sizeStr (some ⟨b2, o2, none⟩) L.length c2 .i64 n (by omega)
              obtain ⟨a5, h5, hr5⟩ := from_ex (P := Try.prog) 43 Try.underlying43 2 sizeEnt (Rd.row HT.out.s (cellsE_one L)) .i64 n hn
              obtain ⟨a6, h6, hr6⟩ := from_ex (P := Try.prog) 44 Try.underlying44 1 sizeStr (Rd.row HT.out.b (cellsS_one L)) .i64 n hn
              have HR5 := Lib.hid hr5
              have HR6 := Lib.hid hr6
              have I0 := Lib.hid HT.out.ins
              have HLN := Lib.hid (len_ins (x := (v, t)) hn)
              clear HLe HEnd HT HU hr5 hr6 hc1 hc2
              go_wp2_with (first
                | (at_builtin; refine wpList_appN rfl (.tmp 58) (.tmp 61) 43 rfl w1.heap.size 23 iE _ 2 24 Try.underlying43 hiE hzE hsE hbE rfl (by decide) none 0 0 [] rfl I0.out.oa _ n c1 _ rfl HRA.out n (cellsE (L.take n)) (Nat.zero_add n) (List.nil_append _) (by unfold maxLen; omega) (by omega) I0.out.size ?_; intro a7 c7 w2 hown hgrow; have I1 := Lib.hid (I0.out.growA hgrow hown); have HRB2 := Lib.hid (HRB.out.grown hgrow (by simp [Value.ownBlock])); clear hown hgrow I0 HRA HRB)
                | (at_builtin; refine wpList_appN rfl (.tmp 63) (.tmp 66) 44 rfl w1.heap.size 9 iS _ 1 16 Try.underlying44 hiS hzS hsS hbS rfl (by decide) none 0 0 [] rfl I1.out.ob _ n c2 _ rfl HRB2.out n (cellsS (L.take n)) (Nat.zero_add n) (List.nil_append _) (by unfold maxLen; omega) (by omega) I1.out.size ?_; intro a8 c8 w3 hown hgrow; have I2 := Lib.hid (I1.out.growB hgrow hown); have q0 := (rdE_at2 (HR.out.later I2.out.low) HX.out).1; have q1 := (rdE_at2 (HR.out.later I2.out.low) HX.out).2; clear hown hgrow I1 HRB2 f0 f1)
                | (at_builtin; refine wpList_appN rfl (.tmp 68) (.tmp 73) 43 rfl w1.heap.size 23 iE _ 2 24 Try.underlying43 hiE hzE hsE hbE rfl (by decide) a7 n c7 (cellsE (L.take n)) rfl (I2.out.later (al1 _ _)).oa _ 1 1 _ rfl (Rd.twoNew _ (.int .i64 v) (.string ⟨t.toArray⟩) _ rfl rfl) (n + 1) (cellsE (L.take n ++ [(v, t)])) rfl (cells_ins1 (x := (v, t))) (by unfold maxLen; omega) (by omega) (I2.out.later (al1 _ _)).size ?_; intro a9 c9 w4 hown hgrow; have I3 := Lib.hid ((I2.out.later (al1 _ _)).growA hgrow hown); clear hown hgrow I2 q0 q1)
                | (at_builtin; refine wpList_appN rfl (.tmp 75) (.tmp 77) 44 rfl w1.heap.size 9 iS _ 1 16 Try.underlying44 hiS hzS hsS hbS rfl (by decide) a8 n c8 (cellsS (L.take n)) rfl (I3.out.later (al1 _ _)).ob _ 1 1 _ rfl (Rd.oneNew _ (.string ⟨(Ky.put v t).toArray⟩) _ rfl) (n + 1) (cellsS (L.take n ++ [(v, t)])) rfl (cells_ins3 (x := (v, t))) (by unfold maxLen; omega) (by omega) (I3.out.later (al1 _ _)).size ?_; intro a10 c10 w5 hown hgrow; have I4 := Lib.hid ((I3.out.later (al1 _ _)).growB hgrow hown); have R5 := Lib.hid (HR5.out w5 (Rd.row I4.out.s (cellsE_one L))); clear hown hgrow I3)
                | (at_builtin; refine wpList_appN rfl (.tmp 79) (.tmp 82) 43 rfl w1.heap.size 23 iE _ 2 24 Try.underlying43 hiE hzE hsE hbE rfl (by decide) a9 (n + 1) c9 (cellsE (L.take n ++ [(v, t)])) rfl I4.out.oa _ _ _ _ rfl R5.out (L.take n ++ [(v, t)] ++ L.drop n).length (cellsE (L.take n ++ [(v, t)] ++ L.drop n)) (by rw [HLN.out]; omega) cells_ins2 (by rw [HLN.out]; unfold maxLen; omega) (by rw [HLN.out]; omega) I4.out.size ?_; intro a11 c11 w6 hown hgrow; have I5 := Lib.hid (I4.out.growA hgrow hown); have R6 := Lib.hid (HR6.out w6 (Rd.row I5.out.b (cellsS_one L))); clear hown hgrow I4 R5 HR5)
                | (at_builtin; refine wpList_appN rfl (.tmp 84) (.tmp 87) 44 rfl w1.heap.size 9 iS _ 1 16 Try.underlying44 hiS hzS hsS hbS rfl (by decide) a10 (n + 1) c10 (cellsS (L.take n ++ [(v, t)])) rfl I5.out.ob _ _ _ _ rfl R6.out (L.take n ++ [(v, t)] ++ L.drop n).length (cellsS (L.take n ++ [(v, t)] ++ L.drop n)) (by rw [HLN.out]; omega) cells_ins4 (by rw [HLN.out]; unfold maxLen; omega) (by rw [HLN.out]; omega) I5.out.size ?_; intro a12 c12 w7 hown hgrow; have I6 := Lib.hid ((I5.out.growB hgrow hown).done HN.out); clear hown hgrow I5 R6 HR6))
              go_roundw
              case rel => exact ⟨k + 1, a11, c11, a12, c12, L.take n ++ [(v, t)] ++ L.drop n, by omega, by rw [HLN.out]; omega, by go_num, slice_len (by rw [HLN.out]; omega), slice_len (by rw [HLN.out]; omega), I6⟩
              case measure => simp [intOf]; omega
            · have hl2 : Op.bytesLess (Ky.put v t) (Ky.put y q) = false := by simpa using hless
              rw [hl2] at hcmp
              have HY : Hid (∀ e ∈ L.take (n + 1), leE e (v, t)) := Lib.hid (by
                intro e he
                rw [List.take_add_one, hy] at he
                rcases List.mem_append.1 he with he | he
                · exact HLe.out e he
                · simp at he; subst he; exact HLE.out.2 hl2)
              obtain ⟨b2, o2, rfl, ce⟩ := HT.out.at hy
              clear hy hle HLE hless hl2 hyin
              go_wp2
              go_round
              case rel => exact ⟨n + 1, by omega, by go_num, HY⟩
              case measure => simp [intOf]; omega
          · have HEnd : Hid (∀ e, L[n]? = some e → ¬ leE e (v, t)) := Lib.hid (by
              intro e he
              rw [List.getElem?_eq_none (by omega)] at he
              cases he)
            have HN := Lib.hid (HT.out.up.insert (x := (v, t)) HU.out hn HLe.out HEnd.out)
            have HRA := Lib.hid (show Rd w1 2 a1 n c1 (cellsE (L.take n)) by have := (Rd.row HT.out.s (cellsE_one L)).to n hn; rwa [cellsE_take] at this)
            have HRB := Lib.hid (show Rd w1 1 a2 n c2 (cellsS (L.take n)) by have := (Rd.row HT.out.b (cellsS_one L)).to n hn; rwa [Nat.mul_one, cellsS_take] at this)
            have hc1 : L.length ≤ c1 := (Rd.row HT.out.s (cellsE_one L)).le
            have hc2 : L.length ≤ c2 := (Rd.row HT.out.b (cellsS_one L)).le
            have hs1 := to_ex (P := Try.prog) 43 Try.underlying43 2 sizeEnt a1 L.length c1 .i64 n (by omega)
            have hs2 := to_ex (P := Try.prog) 44 Try.underlying44 1 sizeStr a2 L.length c2 .i64 n (by omega)
            obtain ⟨a5, h5, hr5⟩ := from_ex (P := Try.prog) 43 Try.underlying43 2 sizeEnt (Rd.row HT.out.s (cellsE_one L)) .i64 n hn
            obtain ⟨a6, h6, hr6⟩ := from_ex (P := Try.prog) 44 Try.underlying44 1 sizeStr (Rd.row HT.out.b (cellsS_one L)) .i64 n hn
            have HR5 := Lib.hid hr5
            have HR6 := Lib.hid hr6
            have I0 := Lib.hid HT.out.ins
            have HLN := Lib.hid (len_ins (x := (v, t)) hn)
            clear HLe HEnd HT HU hr5 hr6 hc1 hc2
            go_wp2_with (first
              | (at_builtin; refine wpList_appN rfl (.tmp 58) (.tmp 61) 43 rfl w1.heap.size 23 iE _ 2 24 Try.underlying43 hiE hzE hsE hbE rfl (by decide) none 0 0 [] rfl I0.out.oa _ n c1 _ rfl HRA.out n (cellsE (L.take n)) (Nat.zero_add n) (List.nil_append _) (by unfold maxLen; omega) (by omega) I0.out.size ?_; intro a7 c7 w2 hown hgrow; have I1 := Lib.hid (I0.out.growA hgrow hown); have HRB2 := Lib.hid (HRB.out.grown hgrow (by simp [Value.ownBlock])); clear hown hgrow I0 HRA HRB)
              | (at_builtin; refine wpList_appN rfl (.tmp 63) (.tmp 66) 44 rfl w1.heap.size 9 iS _ 1 16 Try.underlying44 hiS hzS hsS hbS rfl (by decide) none 0 0 [] rfl I1.out.ob _ n c2 _ rfl HRB2.out n (cellsS (L.take n)) (Nat.zero_add n) (List.nil_append _) (by unfold maxLen; omega) (by omega) I1.out.size ?_; intro a8 c8 w3 hown hgrow; have I2 := Lib.hid (I1.out.growB hgrow hown); have q0 := (rdE_at2 (HR.out.later I2.out.low) HX.out).1; have q1 := (rdE_at2 (HR.out.later I2.out.low) HX.out).2; clear hown hgrow I1 HRB2 f0 f1)
              | (at_builtin; refine wpList_appN rfl (.tmp 68) (.tmp 73) 43 rfl w1.heap.size 23 iE _ 2 24 Try.underlying43 hiE hzE hsE hbE rfl (by decide) a7 n c7 (cellsE (L.take n)) rfl (I2.out.later (al1 _ _)).oa _ 1 1 _ rfl (Rd.twoNew _ (.int .i64 v) (.string ⟨t.toArray⟩) _ rfl rfl) (n + 1) (cellsE (L.take n ++ [(v, t)])) rfl (cells_ins1 (x := (v, t))) (by unfold maxLen; omega) (by omega) (I2.out.later (al1 _ _)).size ?_; intro a9 c9 w4 hown hgrow; have I3 := Lib.hid ((I2.out.later (al1 _ _)).growA hgrow hown); clear hown hgrow I2 q0 q1)
              | (at_builtin; refine wpList_appN rfl (.tmp 75) (.tmp 77) 44 rfl w1.heap.size 9 iS _ 1 16 Try.underlying44 hiS hzS hsS hbS rfl (by decide) a8 n c8 (cellsS (L.take n)) rfl (I3.out.later (al1 _ _)).ob _ 1 1 _ rfl (Rd.oneNew _ (.string ⟨(Ky.put v t).toArray⟩) _ rfl) (n + 1) (cellsS (L.take n ++ [(v, t)])) rfl (cells_ins3 (x := (v, t))) (by unfold maxLen; omega) (by omega) (I3.out.later (al1 _ _)).size ?_; intro a10 c10 w5 hown hgrow; have I4 := Lib.hid ((I3.out.later (al1 _ _)).growB hgrow hown); have R5 := Lib.hid (HR5.out w5 (Rd.row I4.out.s (cellsE_one L))); clear hown hgrow I3)
              | (at_builtin; refine wpList_appN rfl (.tmp 79) (.tmp 82) 43 rfl w1.heap.size 23 iE _ 2 24 Try.underlying43 hiE hzE hsE hbE rfl (by decide) a9 (n + 1) c9 (cellsE (L.take n ++ [(v, t)])) rfl I4.out.oa _ _ _ _ rfl R5.out (L.take n ++ [(v, t)] ++ L.drop n).length (cellsE (L.take n ++ [(v, t)] ++ L.drop n)) (by rw [HLN.out]; omega) cells_ins2 (by rw [HLN.out]; unfold maxLen; omega) (by rw [HLN.out]; omega) I4.out.size ?_; intro a11 c11 w6 hown hgrow; have I5 := Lib.hid (I4.out.growA hgrow hown); have R6 := Lib.hid (HR6.out w6 (Rd.row I5.out.b (cellsS_one L))); clear hown hgrow I4 R5 HR5)
              | (at_builtin; refine wpList_appN rfl (.tmp 84) (.tmp 87) 44 rfl w1.heap.size 9 iS _ 1 16 Try.underlying44 hiS hzS hsS hbS rfl (by decide) a10 (n + 1) c10 (cellsS (L.take n ++ [(v, t)])) rfl I5.out.ob _ _ _ _ rfl R6.out (L.take n ++ [(v, t)] ++ L.drop n).length (cellsS (L.take n ++ [(v, t)] ++ L.drop n)) (by rw [HLN.out]; omega) cells_ins4 (by rw [HLN.out]; unfold maxLen; omega) (by rw [HLN.out]; omega) I5.out.size ?_; intro a12 c12 w7 hown hgrow; have I6 := Lib.hid ((I5.out.growB hgrow hown).done HN.out); clear hown hgrow I5 R6 HR6))
            go_roundw
            case rel => exact ⟨k + 1, a11, c11, a12, c12, L.take n ++ [(v, t)] ++ L.drop n, by omega, by rw [HLN.out]; omega, by go_num, slice_len (by rw [HLN.out]; omega), slice_len (by rw [HLN.out]; omega), I6⟩
            case measure => simp [intOf]; omega
      · have HP := Lib.hid (put_bad v t · (by simpa using ok))
        clear ok hv
        go_wp2_with (first
          | (go_at_call 10; with_reducible refine (HP.out _).mono ?_; rintro e w1 ⟨rfl, hb⟩; have f1 := old_cell e1 hb; have HB1 := Lib.hid (HS.out.low.trans (hb.mono HS.out.low.size)); clear hb)
          | (go_at_call 9; refine (awake_any _).mono ?_; rintro e w2 ⟨rfl, hb⟩; have HB := Lib.hid (HB1.out.trans (hb.mono HB1.out.size)); clear hb))
        all_goals
          go_ret
          exact ⟨rfl, HB.out⟩
    · clear HI HR
      obtain ⟨wo, rfl⟩ : ∃ wo : World, wo = wr := ⟨_, rfl⟩
      go_wp2
      go_loopw [11] (fun i wr2 => ∃ m : Nat, m ≤ L.length ∧ i = .int .i64 m ∧ Hid (Srt w wr2 a1 c1 a2 c2 L)) (fun i _ => L.length - (intOf i).toNat)
      case atStart => exact ⟨0, Nat.zero_le _, rfl, HS⟩
      case round =>
        clear HS
        obtain ⟨m, hm, rfl, HS2⟩ := hrel
        by_cases hml : m < L.length
        · obtain ⟨⟨v2, s2⟩, hy⟩ : ∃ e, L[m]? = some e := ⟨_, List.getElem?_eq_getElem hml⟩
          have HY := Lib.hid hy
          clear hy
          go_wp2
          obtain ⟨wp, rfl⟩ : ∃ wp : World, wp = wr := ⟨_, rfl⟩
          go_loopw [12] (fun i wr3 => ∃ k2 : Nat, k2 ≤ m ∧ i = .int .i64 k2 ∧ Hid (Srt w wr3 a1 c1 a2 c2 L)) (fun i _ => m - (intOf i).toNat)
          case atStart => exact ⟨0, Nat.zero_le _, rfl, HS2⟩
          case round =>
            clear HS2
            obtain ⟨k2, hk2, rfl, HS3⟩ := hrel
            obtain ⟨wq, rfl⟩ : ∃ wq : World, wq = wr := ⟨_, rfl⟩
            by_cases hkl : k2 < m
            · obtain ⟨⟨v1, s1⟩, hx⟩ : ∃ e, L[k2]? = some e := ⟨_, List.getElem?_eq_getElem (by omega)⟩
              have hr1 := HS3.out.up.at hkl hx HY.out
              obtain ⟨b, o, rfl, x0, x1⟩ := rdE_at (Rd.row HS3.out.s (cellsE_one L)) hx
              obtain ⟨y0, y1⟩ := rdE_at2 (Rd.row HS3.out.s (cellsE_one L)) HY.out
              have hrg := Ky.cmpE_range v1 s1 v2 s2
              have hc : (Ky.cmpE v1 s1 v2 s2 = -1 ∧ (v1 == v2 && s1 == s2) = false) ∨ (Ky.cmpE v1 s1 v2 s2 = 0 ∧ (v1 == v2 && s1 == s2) = true) := by
                unfold leE at hr1
                dsimp only at hr1
                rcases hrg with h | h | h
                · refine .inl ⟨h, ?_⟩
                  rw [Bool.eq_false_iff]
                  intro h2
                  have := Ky.cmpE_zero.2 (show v1 = v2 ∧ s1 = s2 by simpa using h2)
                  omega
                · exact .inr ⟨h, by simpa using Ky.cmpE_zero.1 h⟩
                · omega
              have hC1 := compare_any v1 s1 v2 s2
              have hC2 := compare_any v2 s2 v1 s1
              rw [Ky.cmpE_swap v1 s1 v2 s2] at hC2
              have hg := guardEntry
              have b0 : (0 : Int) ≤ (k2 : Int) := by omega
              have b1 : (k2 : Int) < (L.length : Int) := by omega
              have b2 : (0 : Int) ≤ (m : Int) := by omega
              have b3 : (m : Int) < (L.length : Int) := by omega
              have X0 := Lib.hid x0
              have X1 := Lib.hid x1
              have Y0 := Lib.hid y0
              have Y1 := Lib.hid y1
              clear hr1 hrg hx x0 x1 y0 y1
              rcases hc with ⟨hc, he⟩ | ⟨hc, he⟩
              all_goals
                have heq := eqE_run v1 s1 v2 s2 _ he
                rw [hc] at hC1 hC2
                have HC1 := Lib.hid hC1
                have HC2 := Lib.hid hC2
                clear hC1 hC2 hc he
                go_wp2
                go_region_held3 (fun W => (W.cell? ⟨b, o + k2 * 2, none⟩ = some (.int .i64 v1) ∧ W.cell? ⟨b, o + k2 * 2 + 1, none⟩ = some (.string ⟨s1.toArray⟩)) ∧ W.cell? ⟨b, o + m * 2, none⟩ = some (.int .i64 v2) ∧ W.cell? ⟨b, o + m * 2 + 1, none⟩ = some (.string ⟨s2.toArray⟩))
                  (first | exact ⟨⟨X0.out, X1.out⟩, Y0.out, Y1.out⟩ | exact ⟨⟨old_cell X0.out HB1.out, old_cell X1.out HB1.out⟩, old_cell Y0.out HB1.out, old_cell Y1.out HB1.out⟩)
                  (first
                    | (go_at_call 18; (with_reducible refine (HC1.out _).mono ?_); rintro e w5 ⟨rfl, hb⟩; have HB1 := Lib.hid ((Below.refl wq.heap.size wq).drew.trans hb); clear hb))
                go_wp2
                go_region_held3 (fun W => (W.cell? ⟨b, o + k2 * 2, none⟩ = some (.int .i64 v1) ∧ W.cell? ⟨b, o + k2 * 2 + 1, none⟩ = some (.string ⟨s1.toArray⟩)) ∧ W.cell? ⟨b, o + m * 2, none⟩ = some (.int .i64 v2) ∧ W.cell? ⟨b, o + m * 2 + 1, none⟩ = some (.string ⟨s2.toArray⟩))
                  (first | exact ⟨⟨old_cell X0.out HB1.out.drew, old_cell X1.out HB1.out.drew⟩, old_cell Y0.out HB1.out.drew, old_cell Y1.out HB1.out.drew⟩ | exact ⟨⟨old_cell X0.out HB2.out, old_cell X1.out HB2.out⟩, old_cell Y0.out HB2.out, old_cell Y1.out HB2.out⟩)
                  (first
                    | (go_at_call 18; (with_reducible refine (HC2.out _).mono ?_); rintro e w6 ⟨rfl, hb⟩; have HB2 := Lib.hid (HB1.out.drew.trans (hb.mono HB1.out.size)); clear hb))
                go_wp2
                go_roundw
                case rel => exact ⟨k2 + 1, by omega, by go_num, Lib.hid (HS3.out.later HB2.out)⟩
                case measure => simp [intOf]; omega
            · obtain rfl : k2 = m := by omega
              go_wp2
              go_roundw
              case rel => exact ⟨k2 + 1, by omega, by go_num, HS3⟩
              case measure => simp [intOf]; omega
        · go_wp2_with (go_at_call 9; refine (awake_any _).mono ?_; rintro e w2 ⟨rfl, hb⟩; have HB := Lib.hid (HS2.out.low.trans (hb.mono HS2.out.low.size)); clear hb)
          go_ret
          exact ⟨rfl, HB.out⟩
end Go.Proofs.Ytakgpljpdcjmfaa
