/- Joined: Tree27, Tree28, Law5. -/
import Derived.Test.YtbempjkkohjnbaaYTreeE
import Derived.Test.YtbempjkkohjnbaaYTr
import Derived.Deep.QuietTactic
import Derived.BigQuiet
import Derived.Test.YtbempjkkohjnbaaYLawA
/- The tree: Shape. -/
namespace Go.Proofs.Ytbempjkkohjnbaa
open Go.RowKit Tr
open Ky (less)

theorem Try.infoInt : (Try.prog.info? 3).map (fun i => (i.zero, i.size, i.bytes)) = some (some (.int .i64 0), 1, 8) := by kernel_rfl
theorem Try.infoInts : (Try.prog.info? 84).map (fun i => (i.zero, i.size, i.bytes)) = some (some (.slice none 0 0), 1, 24) := by kernel_rfl
def natsV (L : List Nat) : List Value := L.map fun n : Nat => Value.int .i64 (n : Int)
theorem natsV_len (L : List Nat) : (natsV L).length = L.length := by simp [natsV]
theorem natsV_one (L : List Nat) : ∀ u ∈ natsV L, u.oneCell' = true := by
  intro u hu
  obtain ⟨p, _, rfl⟩ := List.mem_map.1 hu
  rfl
theorem natsV_append (A B : List Nat) : natsV (A ++ B) = natsV A ++ natsV B := by simp [natsV]
/-- Rows of counts, each in a block of its own. -/
def Rows_ (B : Nat) (w : World) (vs : List Value) (S : List (List Nat)) : Prop := vs.length = S.length ∧ ∀ (i : Nat) (x : List Nat), S[i]? = some x → ∃ (a : Option Addr) (c : Nat), vs[i]? = some (Value.slice a x.length c) ∧ w.ownsRow B 3 1 (Value.slice a x.length c) x.length (natsV x)
theorem Rows_.nil (B : Nat) (w : World) : Rows_ B w [] [] := ⟨rfl, fun i x h => by simp at h⟩
theorem Rows_.later {B : Nat} {w w' : World} {vs : List Value} {S : List (List Nat)} (h : Rows_ B w vs S) (hb : Below w.heap.size w w') : Rows_ B w' vs S := ⟨h.1, fun i x hx => by
  obtain ⟨a, c, h1, h2⟩ := h.2 i x hx
  exact ⟨a, c, h1, own_later h2 hb⟩⟩
theorem Rows_.grown {B B2 : Nat} {w w' : World} {vs : List Value} {S : List (List Nat)} {e : TypeId} {s n : Nat} {v : Value} {xs : List Value} (h : Rows_ B w vs S) (ho : w.ownsRow B2 e s v n xs) (he : 3 ≠ e) (hg : w.grownBy w' v.ownBlock) : Rows_ B w' vs S := ⟨h.1, fun i x hx => by
  obtain ⟨a, c, h1, h2⟩ := h.2 i x hx
  exact ⟨a, c, h1, h2.kept hg (own_types h2 ho he)⟩⟩
/-- .. where the row that grows is another one, of later blocks. -/
theorem Rows_.grownLow {B B2 : Nat} {w0 w w' : World} {vs : List Value} {S : List (List Nat)} {e : TypeId} {s n : Nat} {v : Value} {xs : List Value} (h0 : Rows_ B w0 vs S) (h : Rows_ B w vs S) (hB : w0.heap.size ≤ B2) (ho : w.ownsRow B2 e s v n xs) (hg : w.grownBy w' v.ownBlock) : Rows_ B w' vs S := ⟨h.1, fun i x hx => by
  obtain ⟨a, c, h1, h2⟩ := h.2 i x hx
  obtain ⟨a', c', h3, h4⟩ := h0.2 i x hx
  rw [h1] at h3
  cases h3
  exact ⟨a, c, h1, h2.kept hg (own_low h4 hB ho)⟩⟩
theorem Rows_.snoc {B : Nat} {w : World} {vs : List Value} {S : List (List Nat)} {a : Option Addr} {c : Nat} {x : List Nat} (h : Rows_ B w vs S) (hx : w.ownsRow B 3 1 (.slice a x.length c) x.length (natsV x)) : Rows_ B w (vs ++ [.slice a x.length c]) (S ++ [x]) := by
  refine ⟨by rw [List.length_append, List.length_append, h.1]; rfl, fun i y hy => ?_⟩
  by_cases hi : i < S.length
  · rw [List.getElem?_append_left hi] at hy
    rw [List.getElem?_append_left (by rw [h.1]; exact hi)]
    exact h.2 i y hy
  · rw [List.getElem?_append_right (by omega)] at hy
    rw [List.getElem?_append_right (by rw [h.1]; omega), h.1]
    have hi2 : i - S.length = 0 := by
      have := (List.getElem?_eq_some_iff.1 hy).1
      simp at this
      omega
    rw [hi2] at hy ⊢
    simp at hy
    subst hy
    exact ⟨a, c, rfl, hx⟩
/-- What Shape answers. -/
def Shp (B : Nat) (w : World) (a : Option Addr) (c : Nat) (S : List (List Nat)) : Prop := ∃ vs, w.ownsRow B 84 1 (.slice a S.length c) S.length vs ∧ Rows_ B w vs S ∧ ∀ u ∈ vs, u.oneCell' = true
theorem Shp.later {B : Nat} {w w' : World} {a : Option Addr} {c : Nat} {S : List (List Nat)} (h : Shp B w a c S) (hb : Below w.heap.size w w') : Shp B w' a c S := by
  obtain ⟨vs, h1, h2, h3⟩ := h
  exact ⟨vs, own_later h1 hb, h2.later hb, h3⟩
/-- Where the walk through the levels stands. -/
structure Shs (w wr : World) (o h N : Nat) (g : G) (k : Nat) (S : List (List Nat)) (sa : Option Addr) (sc : Nat) (gs : List G) (la : Option Addr) (lc : Nat) : Prop where
  b : Below w.heap.size w wr
  lv : Lv o N k gs
  nd : ∀ j g, k = j + 1 → g ∈ gs → Nd w j g
  tot : S ++ lvs k gs = Tr.lv h [g]
  len : S.length + k = h + 1
  shp : Shp w.heap.size wr sa sc S
  lvl : Rd wr 1 la gs.length lc (kidsV gs)
/-- .. within a level. -/
structure Inn (w wo wr : World) (o h N : Nat) (g : G) (k : Nat) (S : List (List Nat)) (sa : Option Addr) (sc : Nat) (gs : List G) (la : Option Addr) (lc : Nat) (j : Nat) (ca : Option Addr) (cc : Nat) (na : Option Addr) (n nc : Nat) : Prop where
  s : Shs w wo o h N g (k + 1) S sa sc gs la lc
  b : Below wo.heap.size wo wr
  cnt : wr.ownsRow wo.heap.size 3 1 (.slice ca j cc) j (natsV ((gs.take j).map fun g => g.ps.length))
  nxt : wr.ownsRow wo.heap.size 87 1 (.slice na n nc) n (kidsV ((gs.take j).flatMap G.ks))
section
variable {w wo wr wr' : World} {o h N : Nat} {g : G} {k : Nat} {S : List (List Nat)} {sa : Option Addr} {sc : Nat} {gs : List G} {la : Option Addr} {lc : Nat} {j : Nat} {ca : Option Addr} {cc : Nat} {na : Option Addr} {n nc : Nat}
theorem Shs.inn (h1 : Shs w wo o h N g (k + 1) S sa sc gs la lc) : Inn w wo wo o h N g k S sa sc gs la lc 0 none 0 none 0 0 :=
  ⟨h1, Below.refl _ _, World.ownsRow_nil _ _ _ _, World.ownsRow_nil _ _ _ _⟩
theorem Inn.later (h1 : Inn w wo wr o h N g k S sa sc gs la lc j ca cc na n nc) (hb : Below wr.heap.size wr wr') : Inn w wo wr' o h N g k S sa sc gs la lc j ca cc na n nc :=
  ⟨h1.s, h1.b.trans (hb.mono h1.b.size), own_later h1.cnt hb, own_later h1.nxt hb⟩
/-- Both have grown. -/
theorem Inn.step {w1 w2 : World} {gj : G} {ca' : Option Addr} {cc' : Nat} {na' : Option Addr} {n' nc' : Nat} (h1 : Inn w wo wr o h N g k S sa sc gs la lc j ca cc na n nc) (_hj : gs[j]? = some gj)
    (g1 : wr.grownBy w1 (Value.slice ca j cc).ownBlock) (o1 : w1.ownsRow wo.heap.size 3 1 (.slice ca' (j + 1) cc') (j + 1) (natsV ((gs.take (j + 1)).map fun g => g.ps.length)))
    (g2 : w1.grownBy w2 (Value.slice na n nc).ownBlock) (o2 : w2.ownsRow wo.heap.size 87 1 (.slice na' n' nc') n' (kidsV ((gs.take (j + 1)).flatMap G.ks))) :
    Inn w wo w2 o h N g k S sa sc gs la lc (j + 1) ca' cc' na' n' nc' := by
  have b1 := below_row h1.b (Nat.le_refl _) h1.cnt g1 h1.b.size
  have n1 := h1.nxt.kept g1 (own_types h1.nxt h1.cnt (by decide))
  exact ⟨h1.s, below_row b1 (Nat.le_refl _) n1 g2 b1.size, o1.kept g2 (own_types o1 n1 (by decide)), o2⟩
theorem Inn.nxt1 {w1 : World} (h1 : Inn w wo wr o h N g k S sa sc gs la lc j ca cc na n nc) (g1 : wr.grownBy w1 (Value.slice ca j cc).ownBlock) :
    w1.ownsRow wo.heap.size 87 1 (.slice na n nc) n (kidsV ((gs.take j).flatMap G.ks)) ∧ wo.heap.size ≤ w1.heap.size ∧ Below w.heap.size w w1 :=
  ⟨h1.nxt.kept g1 (own_types h1.nxt h1.cnt (by decide)), Nat.le_trans h1.b.size g1.size, h1.s.b.trans ((below_row h1.b (Nat.le_refl _) h1.cnt g1 h1.b.size).mono h1.s.b.size)⟩
/-- A node of the level, where it lies. -/
theorem Inn.node (h1 : Inn w wo wr o h N g k S sa sc gs la lc j ca cc na n nc) {gj : G} (hj : gs[j]? = some gj) :
    ∃ pa pc ka kc, wr.cell? ⟨gj.b, 0, none⟩ = some (.slice pa gj.ps.length pc) ∧ wr.cell? ⟨gj.b, 1, none⟩ = some (.slice ka gj.ks.length kc) ∧ Rd wr 1 ka gj.ks.length kc (kidsV gj.ks) ∧
      Hid (∀ W, Below w.heap.size w W → W.cell? ⟨gj.b, 1, none⟩ = some (.slice ka gj.ks.length kc) ∧ Rd W 1 ka gj.ks.length kc (kidsV gj.ks)) := by
  obtain ⟨pa, pc, ka, kc, ht⟩ := (h1.s.nd k gj rfl (List.mem_of_getElem? hj)).top
  have hb : Below w.heap.size w wr := h1.s.b.trans (h1.b.mono h1.s.b.size)
  have t2 := ht.later hb
  exact ⟨pa, pc, ka, kc, t2.c0, t2.c1, t2.sk.rd, Lib.hid fun W hW => ⟨(ht.later hW).c1, (ht.later hW).sk.rd⟩⟩
theorem Inn.lvlAt (h1 : Inn w wo wr o h N g k S sa sc gs la lc j ca cc na n nc) {gj : G} (hj : gs[j]? = some gj) : ∃ b off, la = some ⟨b, off, none⟩ ∧ wr.cell? ⟨b, off + j, none⟩ = some (ptrV gj.b) := by
  have hr := h1.s.lvl.later h1.b
  obtain ⟨b, off, e, hc⟩ := hr.addr (by
    intro h0
    have := kidsV_get hj
    rw [h0] at this
    simp at this)
  exact ⟨b, off, e, hc j _ (kidsV_get hj)⟩
theorem Inn.nlen (h1 : Inn w wo wr o h N g k S sa sc gs la lc gs.length ca cc na n nc) : Value.slice na n nc = .slice na (gs.flatMap G.ks).length nc := by
  have := h1.nxt.1
  rw [kidsV_len, List.take_length] at this
  rw [show n = (gs.flatMap G.ks).length by omega]
/-- The level is told. -/
theorem Inn.done {w2 : World} {sa' : Option Addr} {sc' : Nat} {vs : List Value} (ho2 : 2 ≤ o) (h1 : Inn w wo wr o h N g k S sa sc gs la lc gs.length ca cc na n nc)
    (hvs : wr.ownsRow w.heap.size 84 1 (.slice sa S.length sc) S.length vs) (hr : Rows_ w.heap.size wr vs S) (hone : ∀ u ∈ vs, u.oneCell' = true)
    (hg : wr.grownBy w2 (Value.slice sa S.length sc).ownBlock) (ho : w2.ownsRow w.heap.size 84 1 (.slice sa' (S.length + 1) sc') (S.length + 1) (vs ++ [.slice ca gs.length cc])) :
    Shs w w2 o h N g k (S ++ [gs.map fun g => g.ps.length]) sa' sc' (gs.flatMap G.ks) na nc := by
  have c1 := h1.cnt
  have c2 := h1.nxt
  rw [List.take_length] at c1 c2
  have hn : n = (gs.flatMap G.ks).length := by
    have := c2.1
    rw [kidsV_len] at this
    omega
  subst hn
  have c3 := own_up c1 h1.s.b.size
  have hrows := (hr.snoc (x := gs.map fun g => g.ps.length) (a := ca) (c := cc) (by rw [List.length_map]; exact c3)).grown hvs (by decide) hg
  rw [List.length_map] at hrows
  refine ⟨below_row (h1.s.b.trans (h1.b.mono h1.s.b.size)) (Nat.le_refl _) hvs hg (Nat.le_trans h1.s.b.size h1.b.size), h1.s.lv.step ho2, fun i x hi hx => ?_, ?_, ?_, ⟨_, by rw [List.length_append]; exact ho, hrows, ?_⟩, ?_⟩
  · subst hi
    obtain ⟨y, hy, hxy⟩ := List.mem_flatMap.1 hx
    exact ((h1.s.nd (i + 1) y rfl hy).2.1 x hxy).1
  · have := h1.s.tot
    rw [lvs_succ] at this
    rw [List.append_assoc]
    exact this
  · have := h1.s.len
    rw [List.length_append, List.length_singleton]; omega
  · intro u hu
    rcases List.mem_append.1 hu with hu | hu
    · exact hone u hu
    · rw [List.mem_singleton] at hu
      subst hu
      rfl
  · exact Rd.row (c2.kept hg (own_types c2 hvs (by decide))) (kidsV_one _)
end
set_option maxHeartbeats 4000000 in
set_option maxRecDepth 100000 in
theorem shape_any (b o h N : Nat) (g : G) (hN : (flat h g).length ≤ N) (hNb : N ≤ 100000) (w : World) (hT : TreeAt w b o h g) :
    Calls Try.prog 23 #[ptrV b] w fun e V => ∃ a c, e = .returned (.slice a (h + 1) c) ∧ Shp w.heap.size V a c (lv h [g]) ∧ Below w.heap.size w V := by
  have x2 := hT.m.c2
  have HO := Lib.hid hT.good.o2
  have hh := high hT.good.o2 hT.good.kids hT.good.pos
  have H0 : Hid (∀ t, Shs w (w.alloc (.cells #[ptrV g.b] t)) o h N g (h + 1) [] none 0 [g] (some ⟨w.heap.size, 0, none⟩) 1) := Lib.hid fun t =>
    ⟨al1 _ _, Lv.start hT.good.kids hN, fun j x hj hx => by
      obtain rfl : j = h := by omega
      rw [List.mem_singleton] at hx
      subst hx
      exact hT.m.nd, rfl, Nat.zero_add _, ⟨[], World.ownsRow_nil _ _ _ _, Rows_.nil _ _, fun u hu => by cases hu⟩, Rd.oneNew w _ t rfl⟩
  obtain ⟨i3, hi3, hz3, hs3, hb3⟩ := info_parts Try.infoInt
  obtain ⟨i4, hi4, hz4, hs4, hb4⟩ := info_parts Try.infoInts
  obtain ⟨i5, hi5, hz5, hs5, hb5⟩ := info_parts Try.infoNodeP
  have hhN : h ≤ N := by omega
  have HH := Lib.hid (And.intro hhN hNb)
  clear hT hN hh hhN hNb
  go_enter Try.func23, Try.ntmps23
  go_wp2
  go_loopg [3, 4] (h + 1) (fun k ss ll wr => ∃ (S : List (List Nat)) (sa : Option Addr) (sc : Nat) (gs : List G) (la : Option Addr) (lc : Nat), ss = .slice sa S.length sc ∧ ll = .slice la gs.length lc ∧ Hid (Shs w wr o h N g k S sa sc gs la lc))
  case atStart => exact ⟨[], none, 0, [g], _, 1, rfl, rfl, Lib.hid (H0.out _)⟩
  case round =>
    obtain ⟨S, sa, sc, gs, la, lc, rfl, rfl, HB⟩ := hrel
    obtain ⟨wo, rfl⟩ : ∃ wo : World, wo = wr := ⟨_, rfl⟩
    have hhN := HH.out.1
    have hNb := HH.out.2
    cases gk with
    | zero =>
      have hl := HB.out.len
      have hg : gs = [] := HB.out.lv
      subst hg
      obtain ⟨m, hm⟩ : ∃ m, S.length = m := ⟨_, rfl⟩
      obtain rfl : m = h + 1 := by omega
      have HM := Lib.hid hm
      clear hm hl
      go_wp2
      go_ret
      refine ⟨sa, sc, by rw [HM.out]; rfl, ?_, HB.out.b⟩
      have h1 := HB.out.shp
      have h2 := HB.out.tot
      rw [lvs, List.append_nil] at h2
      rwa [h2] at h1
    | succ k =>
      have hlv := HB.out.lv
      have hgl : gs.length ≤ N + 1 := hlv.2.2.2
      have hg0 : 0 < gs.length := List.length_pos_iff.2 hlv.1
      have hpart := fun j => hlv.part (j := j) HO.out
      have HP := Lib.hid hpart
      have HL := Lib.hid hlv
      have hSl := HB.out.len
      have HI : Hid (Inn w wo wo o h N g k S sa sc gs la lc 0 none 0 none 0 0) := Lib.hid HB.out.inn
      have hg0' : (0 : Int) < (gs.length : Int) := by omega
      clear hpart hlv HB
      go_wp2
      go_loopw [5, 6, 21] (fun cs ns i wr => ∃ (j : Nat) (ca : Option Addr) (cc : Nat) (na : Option Addr) (n nc : Nat), j ≤ gs.length ∧ n ≤ N + 1 ∧ i = .int .i64 j ∧ cs = .slice ca j cc ∧ ns = .slice na n nc ∧ Hid (Inn w wo wr o h N g k S sa sc gs la lc j ca cc na n nc)) (fun _ _ i _ => gs.length - (intOf i).toNat)
      case atStart => exact ⟨0, none, 0, none, 0, 0, by omega, by omega, rfl, rfl, rfl, HI⟩
      case round =>
        obtain ⟨j, ca, cc, na, n, nc, hj, hn, rfl, rfl, rfl, HI⟩ := hrel
        by_cases hlt : j < gs.length
        · obtain ⟨gj, hgj⟩ : ∃ x, gs[j]? = some x := ⟨_, List.getElem?_eq_getElem hlt⟩
          obtain ⟨lb, lo, rfl, l0⟩ := HI.out.lvlAt hgj
          obtain ⟨pa, pc, ka, kc, p0, p1, hrd, HW⟩ := HI.out.node hgj
          have HG := Lib.hid hgj
          have hps := (HL.out.node (List.mem_of_getElem? hgj)).2
          have j0 : (0 : Int) ≤ (j : Int) := by omega
          have j1 : (j : Int) < (gs.length : Int) := by omega
          obtain ⟨m, hm⟩ : ∃ m, gj.ks.length = m := ⟨_, rfl⟩
          obtain ⟨q, hq⟩ : ∃ m, gj.ps.length = m := ⟨_, rfl⟩
          have HM := Lib.hid (And.intro hm hq)
          have hnm : n + m ≤ N + 1 := by
            have h1 := HP.out (j + 1)
            have h2 := HI.out.nxt.1
            rw [kidsV_len] at h2
            rw [take_kids_succ hgj, List.length_append, hm] at h1
            omega
          have HCN : Hid (natsV ((gs.take j).map fun g => g.ps.length) ++ [.int .i64 (q : Int)] = natsV ((gs.take (j + 1)).map fun g => g.ps.length)) := Lib.hid (by rw [take_map_succ hgj, natsV_append, ← hq]; rfl)
          have HKN : Hid (kidsV ((gs.take j).flatMap G.ks) ++ kidsV gj.ks = kidsV ((gs.take (j + 1)).flatMap G.ks)) := Lib.hid (by rw [take_kids_succ hgj, kidsV_append])
          rw [hm] at p1 hrd HW
          have HRD := Lib.hid hrd
          rw [hq] at p0
          have hq1 : q ≤ N := by omega
          clear hgj hrd hm hq hps
          go_wp2_with (first
            | (at_builtin; refine wpList_appN rfl (.tmp 25) (.tmp 31) 84 rfl wo.heap.size 3 i3 _ 1 8 Try.underlying84 hi3 hz3 hs3 hb3 rfl (by decide) ca j cc _ rfl (HI.out.later (al1 _ _)).cnt _ 1 1 _ rfl (Rd.oneNew _ (.int .i64 (q : Int)) _ rfl) (j + 1) _ rfl HCN.out (by unfold maxLen; omega) (by omega) (HI.out.later (al1 _ _)).b.size ?_; intro ca' cc' w1 hown hgrow; have H1 := Lib.hid (And.intro hgrow hown); have H3 := Lib.hid ((HI.out.later (al1 _ _)).nxt1 hgrow); have y1 := (HW.out w1 H3.out.2.2).1; have R1 := Lib.hid (HW.out w1 H3.out.2.2).2; clear hown hgrow)
            | (at_builtin; refine wpList_appN rfl (.tmp 33) (.tmp 37) 89 rfl wo.heap.size 87 i5 _ 1 8 Try.underlying89 hi5 hz5 hs5 hb5 rfl (by decide) na n nc _ rfl H3.out.1 ka m kc (kidsV gj.ks) rfl R1.out (n + m) _ rfl HKN.out (by unfold maxLen; omega) (by omega) H3.out.2.1 ?_; intro na' nc' w2 hown hgrow; have H2 := Lib.hid (And.intro hgrow hown); clear hown hgrow))
          go_roundw
          case rel => exact ⟨j + 1, ca', cc', na', n + m, nc', by omega, by omega, by go_num, rfl, rfl, Lib.hid ((HI.out.later (al1 _ _)).step HG.out H1.out.1 H1.out.2 H2.out.1 H2.out.2)⟩
          case measure => simp [intOf]; omega
        · obtain rfl : j = gs.length := by omega
          obtain ⟨vs, s1, s2, s3⟩ := (HI.out.s.shp.later HI.out.b)
          have HS := Lib.hid (And.intro s1 (And.intro s2 s3))
          have hSl2 : S.length + 1 ≤ N + 1 := by omega
          clear s1 s2 s3
          go_wp2_with (at_builtin; refine wpList_appN rfl (.tmp 40) (.tmp 42) 41 rfl w.heap.size 84 i4 _ 1 24 Try.underlying41 hi4 hz4 hs4 hb4 rfl (by decide) sa S.length sc vs rfl (own_later HS.out.1 (al1 _ _)) _ 1 1 _ rfl (Rd.oneNew _ (.slice ca gs.length cc) _ rfl) (S.length + 1) _ rfl rfl (by unfold maxLen; omega) (by omega) (Nat.le_trans HI.out.s.b.size (Nat.le_trans HI.out.b.size (al1 _ _).size)) ?_; intro sa' sc' w1 hown hgrow; have H1 := Lib.hid (And.intro hgrow hown); clear hown hgrow)
          go_roundg k
          case measure => omega
          case rel => exact ⟨S ++ [gs.map fun g => g.ps.length], sa', sc', gs.flatMap G.ks, na, nc, by rw [List.length_append]; rfl, HI.out.nlen, Lib.hid ((HI.out.later (al1 _ _)).done HO.out (own_later HS.out.1 (al1 _ _)) (HS.out.2.1.later (al1 _ _)) HS.out.2.2 H1.out.1 H1.out.2)⟩
end Go.Proofs.Ytbempjkkohjnbaa

/- The document's Shaped, of what Shape answers. -/
namespace Go.Proofs.Ytbempjkkohjnbaa
open Go.RowKit Tr
open Ky (less)

/-- Levels that are those of a tree. -/
structure SOk (o n : Nat) (S : List (List Nat)) : Prop where
  o2 : 2 ≤ o
  o16 : o ≤ 16
  n1 : n ≤ 100000
  head : ∃ x, S[0]? = some [x] ∧ min 1 n ≤ x ∧ x + 1 ≤ 2 * o
  rest : ∀ (i : Nat) (x : List Nat) (m : Nat), S[i + 1]? = some x → m ∈ x → o ≤ m + 1 ∧ m + 1 ≤ 2 * o
  chain : ∀ (i : Nat) (x y : List Nat), S[i]? = some x → S[i + 1]? = some y → y.length = (x.map (· + 1)).sum
  sum : (S.map List.sum).sum = n
  wide : ∀ (i : Nat) (x : List Nat), S[i]? = some x → x.length ≤ 100001
  one : 0 < n ∨ S.length = 1
theorem Good.sok {o h : Nat} {g : G} (hg : Good o h g) (hn : (flat h g).length ≤ 100000) : SOk o (flat h g).length (lv h [g]) := by
  have hk1 : ∀ k ∈ [g], Tr.Kids o h k := fun k hk => by rw [List.mem_singleton] at hk; subst hk; exact hg.kids
  refine ⟨hg.o2, hg.o16, hn, ⟨g.ps.length, lv_head h [g], ?_, hg.hi⟩, fun i x m hx hm => ?_, fun i x y => lv_chain h [g] i x y hk1, ?_, ?_, ?_⟩
  · cases h with
    | zero => show min 1 g.ps.length ≤ _; omega
    | succ h => have := hg.pos (Nat.succ_pos h); omega
  · cases h with
    | zero => simp [Tr.lv] at hx
    | succ h =>
      rw [Tr.lv, List.getElem?_cons_succ] at hx
      have e : [g].flatMap G.ks = g.ks := by simp
      rw [e] at hx
      exact lv_bound h g.ks i x m (fun k hk => (hg.kids.2 k hk).1) (fun k hk => (hg.kids.2 k hk).2) hx hm
  · rw [lv_sum (o := o) h [g] hk1]; simp
  · intro i x hx
    exact lv_width (N := 100000) hg.o2 h [g] i x (Lv.start hg.kids hn) hx
  · cases h with
    | zero => exact .inr rfl
    | succ h => exact .inl (by have := hg.pos (Nat.succ_pos h); have := flat_ge hg.kids; omega)
theorem psum_le (L : List Nat) (k : Nat) : (L.take k).sum ≤ L.sum := by
  conv => rhs; rw [← List.take_append_drop k L]
  rw [List.sum_append]; omega
theorem psum_succ {L : List Nat} {k m : Nat} (h : L[k]? = some m) : (L.take (k + 1)).sum = (L.take k).sum + m := by
  rw [List.take_add_one, h, List.sum_append]; simp
theorem sum_succ (L : List Nat) : (L.map (· + 1)).sum = L.sum + L.length := by
  induction L with
  | nil => rfl
  | cons a L ih => rw [List.map_cons, List.sum_cons, ih, List.sum_cons, List.length_cons]; omega
/-- A row of what Shape answers, where it lies. -/
theorem Shp.row {B : Nat} {w : World} {a : Option Addr} {c : Nat} {S : List (List Nat)} (h : Shp B w a c S) {i : Nat} {x : List Nat} (hx : S[i]? = some x) :
    ∃ b off ai ci, a = some ⟨b, off, none⟩ ∧ w.cell? ⟨b, off + i, none⟩ = some (.slice ai x.length ci) ∧ Rd w 1 ai x.length ci (natsV x) := by
  obtain ⟨vs, h1, h2, h3⟩ := h
  obtain ⟨ai, ci, h4, h5⟩ := h2.2 i x hx
  obtain ⟨b, off, e, hc⟩ := (Rd.row h1 h3).addr (by intro h0; rw [h0] at h4; simp at h4)
  exact ⟨b, off, ai, ci, e, hc i _ h4, Rd.row h5 (natsV_one x)⟩
theorem rdN_at {w : World} {a : Option Addr} {n c : Nat} {x : List Nat} (h : Rd w 1 a n c (natsV x)) {k m : Nat} (hk : x[k]? = some m) : ∃ b off, a = some ⟨b, off, none⟩ ∧ w.cell? ⟨b, off + k, none⟩ = some (.int .i64 m) := by
  have hv : (natsV x)[k]? = some (.int .i64 (m : Int)) := by simp [natsV, hk]
  obtain ⟨b, off, e, hc⟩ := h.addr (by intro h0; rw [h0] at hv; simp at hv)
  exact ⟨b, off, e, hc k _ hv⟩
theorem Shp.cap {B : Nat} {w : World} {a : Option Addr} {c : Nat} {S : List (List Nat)} (h : Shp B w a c S) : S.length ≤ maxLen := by
  obtain ⟨vs, h1, h2, h3⟩ := h
  have := Rd.row h1 h3
  have := this.le
  have := (Rd.row h1 h3).cap
  omega
def ShR (s x0 : Nat) (ss cc i : Value) : Prop := (i = .int .i64 0 ∧ ss = .int .i64 s ∧ cc = .int .i64 0) ∨ (i = .int .i64 1 ∧ ss = .int .i64 (s + x0 : Nat) ∧ cc = .int .i64 (x0 + 1 : Nat))
set_option maxHeartbeats 4000000 in
set_option maxRecDepth 100000 in
theorem shaped_any (B o n : Nat) (a : Option Addr) (c : Nat) (S : List (List Nat)) (hS : SOk o n S) (w : World) (hP : Shp B w a c S) :
    Calls Try.prog 22 #[.slice a S.length c, .int .i64 o, .int .i64 n] w fun e V => e = .returned (.bool true) ∧ Below w.heap.size w V := by
  obtain ⟨x0, hx0, hlo, hhi⟩ := hS.head
  have HX0 := Lib.hid (And.intro hx0 (And.intro hlo hhi))
  have hlen := (List.getElem?_eq_some_iff.1 hx0).1
  obtain ⟨sb, so, a0, c0, rfl, s0, _⟩ := hP.row hx0
  have hcap := hP.cap
  have h2 := hS.o2
  have h16 := hS.o16
  have hn1 := hS.n1
  have HS := Lib.hid hS
  have HP := Lib.hid hP
  unfold maxLen at hcap
  have hl0 : (0 : Int) < (S.length : Int) := by omega
  have hl1 : ((S.length : Int) == 0) = false := by rw [beq_eq_false_iff_ne]; omega
  simp only [Nat.add_zero, List.length_cons, List.length_nil, Nat.zero_add] at s0
  clear hS hP hx0 hlo hhi
  go_enter Try.func22, Try.ntmps22
  go_wp2
  go_loop [7, 8] (fun ss i => ∃ (k : Nat), k ≤ S.length ∧ i = .int .i64 k ∧ ss = .int .i64 (((S.take k).map List.sum).sum : Nat)) (fun _ i => S.length - (intOf i).toNat)
  case atStart => exact ⟨0, by omega, rfl, rfl⟩
  case round =>
    obtain ⟨k, hk, rfl, rfl⟩ := hrel
    obtain ⟨s, hs⟩ : ∃ s, ((S.take k).map List.sum).sum = s := ⟨_, rfl⟩
    have HSm := Lib.hid hs
    have hsn : s ≤ n := by
      have h1 := psum_le (S.map List.sum) k
      rw [← List.map_take, HS.out.sum, hs] at h1
      exact h1
    rw [hs]
    clear hs
    by_cases hlt : k < S.length
    · obtain ⟨x, hx⟩ : ∃ x, S[k]? = some x := ⟨_, List.getElem?_eq_getElem hlt⟩
      obtain ⟨sb', so', ai, ci, e, s1, hr⟩ := HP.out.row hx
      simp only [Option.some.injEq, Addr.mk.injEq, and_true] at e
      obtain ⟨rfl, rfl⟩ := e
      have HR := Lib.hid hr
      have HX := Lib.hid hx
      have hxc := HS.out.wide k x hx
      have hsx : s + x.sum ≤ n := by
        have h1 := psum_le (S.map List.sum) (k + 1)
        rw [psum_succ (L := S.map List.sum) (k := k) (m := x.sum) (by simp [hx]), ← List.map_take, HS.out.sum, HSm.out] at h1
        exact h1
      have HE : Hid (((S.take (k + 1)).map List.sum).sum = s + x.sum) := Lib.hid (by rw [List.map_take, psum_succ (L := S.map List.sum) (k := k) (m := x.sum) (by simp [hx]), ← List.map_take, HSm.out])
      have HC := Lib.hid (sum_succ x)
      have k0 : (0 : Int) ≤ (k : Int) := by omega
      have k1 : (k : Int) < (S.length : Int) := by omega
      have HN : Hid (∀ y, S[k + 1]? = some y → y.length = x.sum + x.length) := Lib.hid (fun y hy => by rw [HS.out.chain k x y hx hy, HC.out])
      clear hr
      cases k with
      | zero =>
        obtain ⟨h1, h3, h4⟩ := HX0.out
        have hx1 : x = [x0] := by rw [hx] at h1; exact Option.some.inj h1
        subst hx1
        obtain ⟨xb, xo, rfl, x1⟩ := rdN_at HR.out (k := 0) (m := x0) rfl
        have hhi : ¬ (2 * (o : Int) - 1 < (x0 : Int)) := by omega
        simp only [Nat.add_zero, List.length_cons, List.length_nil, Nat.zero_add, List.sum_cons, List.sum_nil] at s1 x1 hsx HN HE ⊢
        have hlo : (1 ≤ (n : Int) ∧ ¬ ((x0 : Int) < 1)) ∨ n = 0 := by omega
        clear h1 h3 hx hxc HX HC HR h4 s0
        go_wp2
        go_loop [7, 9, 10] (fun ss cc i => ShR s x0 ss cc i) (fun _ _ i => 1 - (intOf i).toNat)
        case atStart => exact Or.inl ⟨rfl, rfl, rfl⟩
        case round =>
          rcases (show _ ∨ _ from hrel) with ⟨rfl, rfl, rfl⟩ | ⟨rfl, rfl, rfl⟩
          · rcases hlo with ⟨hn1', hlo⟩ | hlo
            · go_wp2
              go_round
              case rel => first | exact (show ShR s x0 _ _ _ from Or.inr ⟨rfl, by first | rfl | go_num, by first | rfl | go_num⟩) | exact ⟨_, _, _, _, (show ShR s x0 (.int .i64 (s + x0 : Nat)) (.int .i64 (x0 + 1 : Nat)) (.int .i64 1) from Or.inr ⟨rfl, rfl, rfl⟩), rfl, by go_num, by go_num, rfl⟩
              case measure => simp [intOf]
            · subst hlo
              go_wp2
              go_round
              case rel => first | exact (show ShR s x0 _ _ _ from Or.inr ⟨rfl, by first | rfl | go_num, by first | rfl | go_num⟩) | exact ⟨_, _, _, _, (show ShR s x0 (.int .i64 (s + x0 : Nat)) (.int .i64 (x0 + 1 : Nat)) (.int .i64 1) from Or.inr ⟨rfl, rfl, rfl⟩), rfl, by go_num, by go_num, rfl⟩
              case measure => simp [intOf]
          · by_cases hk1 : 1 < S.length
            · obtain ⟨y, hy⟩ : ∃ y, S[1]? = some y := ⟨_, List.getElem?_eq_getElem hk1⟩
              have hyl := HN.out y hy
              obtain ⟨sb', so', ai, ci, e, s2, _⟩ := HP.out.row hy
              simp only [Option.some.injEq, Addr.mk.injEq, and_true] at e
              obtain ⟨rfl, rfl⟩ := e
              rw [hyl, Nat.add_zero] at s2
              have hk1' : (1 : Int) < (S.length : Int) := by omega
              have hb : (((x0 + 1 : Nat) : Int) != ((x0 + 1 : Nat) : Int)) = false := by simp
              clear hy hyl
              go_wp2
              go_round
              case rel => exact ⟨1, by omega, rfl, by rw [HE.out]; first | done | rfl | go_num⟩
              case measure => simp [intOf]; omega
            · have hk1' : ¬ (1 : Int) < (S.length : Int) := by omega
              go_wp2
              go_round
              case rel => exact ⟨1, by omega, rfl, by rw [HE.out]; first | done | rfl | go_num⟩
              case measure => simp [intOf]; omega
      | succ k' =>
        have HXr := Lib.hid (fun m => HS.out.rest k' x m hx)
        have hk0' : (((k' + 1 : Nat) : Int) == 0) = false := by rw [beq_eq_false_iff_ne]; omega
        clear hx s0
        go_wp2
        go_loop [7, 9, 10] (fun ss cc i => ∃ (q : Nat), q ≤ x.length ∧ i = .int .i64 q ∧ ss = .int .i64 (s + (x.take q).sum : Nat) ∧ cc = .int .i64 ((x.take q).sum + q : Nat)) (fun _ _ i => x.length - (intOf i).toNat)
        case atStart => exact ⟨0, by omega, rfl, rfl, rfl⟩
        case round =>
          obtain ⟨q, hq, rfl, rfl, rfl⟩ := hrel
          obtain ⟨z, hz⟩ : ∃ z, (x.take q).sum = z := ⟨_, rfl⟩
          have hzx : z ≤ x.sum := by rw [← hz]; exact psum_le x q
          have HZ := Lib.hid hz
          rw [hz]
          clear hz
          by_cases hql : q < x.length
          · obtain ⟨m, hm⟩ : ∃ m, x[q]? = some m := ⟨_, List.getElem?_eq_getElem hql⟩
            obtain ⟨xb, xo, rfl, x1⟩ := rdN_at HR.out hm
            have hzm : z + m ≤ x.sum := by
              have h1 := psum_le x (q + 1)
              rw [psum_succ hm, HZ.out] at h1
              exact h1
            have HM := Lib.hid (show (x.take (q + 1)).sum = z + m by rw [psum_succ hm, HZ.out])
            have hmm := HXr.out m (List.mem_of_getElem? hm)
            have hlo : ¬ ((m : Int) < (o : Int) - 1) := by omega
            have hhi : ¬ (2 * (o : Int) - 1 < (m : Int)) := by omega
            have q0 : (0 : Int) ≤ (q : Int) := by omega
            have q1 : (q : Int) < (x.length : Int) := by omega
            clear hm hmm
            go_wp2
            go_round
            case rel => exact ⟨q + 1, by omega, by go_num, by rw [HM.out]; go_num, by rw [HM.out]; go_num⟩
            case measure => simp [intOf]; omega
          · obtain rfl : q = x.length := by omega
            have hzz : x.sum = z := by rw [← HZ.out, List.take_length]
            have HZZ := Lib.hid hzz
            clear hzz
            by_cases hk1 : k' + 1 + 1 < S.length
            · obtain ⟨y, hy⟩ : ∃ y, S[k' + 1 + 1]? = some y := ⟨_, List.getElem?_eq_getElem hk1⟩
              have hyl := HN.out y hy
              rw [HZZ.out] at hyl
              obtain ⟨sb', so', ai2, ci2, e, s2, _⟩ := HP.out.row hy
              simp only [Option.some.injEq, Addr.mk.injEq, and_true] at e
              obtain ⟨rfl, rfl⟩ := e
              rw [hyl] at s2
              have hk1' : ((k' + 1 : Nat) : Int) + 1 < (S.length : Int) := by omega
              clear hy hyl
              go_wp2
              go_round
              case rel => exact ⟨k' + 1 + 1, by omega, by go_num, by rw [HE.out, HZZ.out]; go_num⟩
              case measure => simp [intOf]; omega
            · have hk1' : ¬ ((k' + 1 : Nat) : Int) + 1 < (S.length : Int) := by omega
              go_wp2
              go_round
              case rel => exact ⟨k' + 1 + 1, by omega, by go_num, by rw [HE.out, HZZ.out]; go_num⟩
              case measure => simp [intOf]; omega
    · obtain rfl : k = S.length := by omega
      have hsn' : s = n := by
        have h1 := HSm.out
        rw [List.take_length, HS.out.sum] at h1
        exact h1.symm
      subst hsn'
      rcases HS.out.one with h1 | h1
      · have h1' : (0 : Int) < (s : Int) := by omega
        go_wp2
        go_ret
        exact ⟨rfl, Below.refl _ _⟩
      · have h1' : (S.length : Int) = 1 := by omega
        by_cases hs0 : (0 : Int) < (s : Int)
        all_goals
          go_wp2
          go_ret
          exact ⟨rfl, Below.refl _ _⟩
end Go.Proofs.Ytbempjkkohjnbaa

/- The laws of package tree: awake. -/
namespace Go.Proofs.Ytbempjkkohjnbaa
open Go.RowKit Tr
open Ky (less)

theorem own_fr {S : Foot} {w w' : World} {B : Nat} {e : TypeId} {size n : Nat} {v : Value} {xs : List Value} (h : w.ownsRow B e size v n xs) (hf : Fr S w w') (hS : ∀ k x, S k x → k < B) : w'.ownsRow B e size v n xs := by
  refine ⟨h.1, h.2.imp id ?_⟩
  rintro ⟨g, cap, cur, rfl, hb, hgg, r⟩
  refine ⟨g, cap, cur, rfl, hb, ?_, r⟩
  rw [hf.block g (Array.getElem?_eq_some_iff.1 hgg).1 (fun o h' => by have := hS g o h'; omega)]
  exact hgg
theorem Shp.fr {S : Foot} {B : Nat} {w w' : World} {a : Option Addr} {c : Nat} {L : List (List Nat)} (h : Shp B w a c L) (hf : Fr S w w') (hS : ∀ k x, S k x → k < B) : Shp B w' a c L := by
  obtain ⟨vs, h1, h2, h3⟩ := h
  refine ⟨vs, own_fr h1 hf hS, ⟨h2.1, fun i x hx => ?_⟩, h3⟩
  obtain ⟨a', c', h4, h5⟩ := h2.2 i x hx
  exact ⟨a', c', h4, own_fr h5 hf hS⟩
theorem awk_put (b : Nat) (L : List Pr) (key : Str) (hk : okTk key = true) (g : G) (w : World) (T : TreeAt w b 2 0 g) (hL : flat 0 g = L) (hl : L.length ≤ 2) :
    Calls Try.prog 19 #[ptrV b, .string ⟨key.toArray⟩, .string ⟨#[]⟩] w fun e V => (∃ r, e = .returned r) ∧ ∃ g', Hid (TreeAt V b 2 0 g' ∧ flat 0 g' = ins (key, []) L ∧ Fr (treeF b 0 g) w V ∧ Grew w (treeF b 0 g) (treeF b 0 g')) := by
  refine (tree_put b 2 0 g key [] hk (by simp) (by rw [hL]; omega) w T).mono ?_
  rintro e V ⟨rfl, h', g', t1, t2, t3, t4, t5⟩
  refine ⟨⟨_, rfl⟩, ?_⟩
  have hp : g.ps.length ≤ 2 := by rw [← hL] at hl; exact hl
  rcases t5 with ⟨rfl, _⟩ | ⟨_, _, h5⟩
  · exact ⟨g', Lib.hid ⟨t1, by rw [t2, hL], t3, t4⟩⟩
  · omega
theorem awk_put4 (b : Nat) (L : List Pr) (key : Str) (hk : okTk key = true) (g : G) (w : World) (T : TreeAt w b 2 0 g) (hL : flat 0 g = L) (hl : L.length = 3) (hn : get key L = none) :
    Calls Try.prog 19 #[ptrV b, .string ⟨key.toArray⟩, .string ⟨#[]⟩] w fun e V => (∃ r, e = .returned r) ∧ ∃ g', Hid (TreeAt V b 2 1 g' ∧ lv 1 [g'] = [[1], [1, 2]] ∧ (flat 1 g').length ≤ 100 ∧ Fr (treeF b 0 g) w V ∧ Grew w (treeF b 0 g) (treeF b 1 g')) := by
  refine (tree_put b 2 0 g key [] hk (by simp) (by rw [hL]; omega) w T).mono ?_
  rintro e V ⟨rfl, h', g', t1, t2, t3, t4, t5⟩
  refine ⟨⟨_, rfl⟩, ?_⟩
  have hlen : (flat h' g').length = 4 := by rw [t2, hL, ins_len, hl, if_pos hn]
  rcases t5 with ⟨rfl, _, h5⟩ | ⟨rfl, ⟨m, l, r, h6, h7, h8, h9⟩, _⟩
  · have : (flat 0 g').length = g'.ps.length := rfl
    omega
  · refine ⟨g', Lib.hid ⟨t1, ?_, by show (flat (0 + 1) g').length ≤ 100; omega, t3, t4⟩⟩
    have hl1 : l.ps.length = 1 := by omega
    simp [lv, h6, h7, hl1, h9]
theorem shp_3 {B : Nat} {w : World} {a : Option Addr} {c : Nat} (h : Shp B w a c [[3]]) : ∃ b o b2 o2 c2, a = some ⟨b, o, none⟩ ∧ w.cell? ⟨b, o, none⟩ = some (.slice (some ⟨b2, o2, none⟩) 1 c2) ∧ w.cell? ⟨b2, o2, none⟩ = some (.int .i64 3) := by
  obtain ⟨b, o, ai, ci, e, h1, h2⟩ := h.row (i := 0) (x := [3]) rfl
  obtain ⟨b2, o2, rfl, h3⟩ := rdN_at h2 (k := 0) (m := 3) rfl
  exact ⟨b, o, b2, o2, ci, e, h1, h3⟩
theorem shp_12 {B : Nat} {w : World} {a : Option Addr} {c : Nat} (h : Shp B w a c [[1], [1, 2]]) : ∃ b o b2 o2 c2 a3 c3, a = some ⟨b, o, none⟩ ∧ w.cell? ⟨b, o, none⟩ = some (.slice (some ⟨b2, o2, none⟩) 1 c2) ∧ w.cell? ⟨b2, o2, none⟩ = some (.int .i64 1) ∧ w.cell? ⟨b, o + 1, none⟩ = some (.slice a3 2 c3) := by
  obtain ⟨b, o, ai, ci, e, h1, h2⟩ := h.row (i := 0) (x := [1]) rfl
  obtain ⟨b2, o2, rfl, h3⟩ := rdN_at h2 (k := 0) (m := 1) rfl
  obtain ⟨b', o', a3, c3, e', h4, _⟩ := h.row (i := 1) (x := [1, 2]) rfl
  rw [e] at e'
  cases e'
  exact ⟨b, o, b2, o2, ci, a3, c3, e, h1, h3, h4⟩
theorem awk_x {b : Nat} {g3 : G} {V3 V4 V5 V6 : World} {xa : Option Addr} {xc : Nat} (T : TreeAt V3 b 2 0 g3) (hL : flat 0 g3 = ins ([99], []) [([97], []), ([98], [])]) (hs : Shp V3.heap.size V4 xa xc (lv 0 [g3])) (hf : Fr (treeF b 0 g3) V4 V5) (hb : Below V5.heap.size V5 V6) : Shp V3.heap.size V6 xa xc [[3]] := by
  have e : lv 0 [g3] = [[3]] := by
    have : g3.ps.length = 3 := by
      have h : g3.ps = ins ([99], []) [([97], []), ([98], [])] := hL
      rw [h]; decide
    simp [lv, this]
  rw [e] at hs
  exact (hs.fr hf T.m.lies).later hb
/-- What was there stays, if only cells of its own turn. -/
theorem low_step {B : Nat} {w0 w V : World} {S S' : Foot} (h : Below B w0 w ∧ B ≤ w.heap.size ∧ ∀ k x, S k x → B ≤ k) (hf : Fr S w V) (hg : Grew w S S') : Below B w0 V ∧ B ≤ V.heap.size ∧ ∀ k x, S' k x → B ≤ k := by
  refine ⟨h.1.trans (hf.below h.2.1 h.2.2), Nat.le_trans h.2.1 hf.size, fun k x hx => ?_⟩
  rcases hg k x hx with h1 | h1
  · exact h.2.2 k x h1
  · exact Nat.le_trans h.2.1 h1
theorem low_on {B : Nat} {w0 w V : World} {S : Foot} (h : Below B w0 w ∧ B ≤ w.heap.size ∧ ∀ k x, S k x → B ≤ k) (hb : Below w.heap.size w V) : Below B w0 V ∧ B ≤ V.heap.size ∧ ∀ k x, S k x → B ≤ k :=
  ⟨h.1.trans (hb.mono h.2.1), Nat.le_trans h.2.1 hb.size, h.2.2⟩
set_option maxHeartbeats 4000000 in
set_option maxRecDepth 100000 in
theorem awake4_any (w : World) : Calls Try.prog 18 #[] w fun e V => e = .returned (.bool true) ∧ Below w.heap.size w V := by
  have HN := Lib.hid (newT_any 2 (by omega) (by omega) w)
  have tok1 : True := trivial
  have tok2 : True := trivial
  have tok3 : True := trivial
  have tok4 : True := trivial
  have tok5 : True := trivial
  go_enter Try.func18, Try.ntmps18
  go_wp2_with (first
    | (go_at_call 17; refine HN.out.mono ?_; rintro e V ⟨b, g, rfl, t1, t2, t3, t4⟩; have H0 := Lib.hid (And.intro t1 (And.intro t2 (And.intro t3 t4))); clear t1 t2 t3 t4)
    | (go_at_call 19; have _t := tok1; refine (awk_put b [] [97] (by decide) g V H0.out.1 H0.out.2.1 (by decide)).mono ?_; rintro e1 V1 ⟨⟨r1, rfl⟩, g1, H1⟩; clear tok1 _t)
    | (go_at_call 19; have _t := tok2; refine (awk_put b [([97], [])] [98] (by decide) g1 V1 H1.out.1 H1.out.2.1 (by decide)).mono ?_; rintro e2 V2 ⟨⟨r2, rfl⟩, g2, H2⟩; clear tok2 _t)
    | (go_at_call 19; have _t := tok3; refine (awk_put b [([97], []), ([98], [])] [99] (by decide) g2 V2 H2.out.1 H2.out.2.1 (by decide)).mono ?_; rintro e3 V3 ⟨⟨r3, rfl⟩, g3, H3⟩; clear tok3 _t)
    | (go_at_call 23; have _t := tok4; refine (shape_any b 2 0 100 g3 (by rw [H3.out.2.1]; decide) (by omega) V3 H3.out.1).mono ?_; rintro e4 V4 ⟨xa, xc, rfl, q1, q2⟩; have H4 := Lib.hid (And.intro q1 q2); clear q1 q2 tok4 _t)
    | (go_at_call 19; refine (awk_put4 b [([97], []), ([98], []), ([99], [])] [100] (by decide) g3 V4 (H3.out.1.later H4.out.2) H3.out.2.1 rfl (by decide)).mono ?_; rintro e5 V5 ⟨⟨r5, rfl⟩, g5, H5⟩)
    | (go_at_call 23; have _t := tok5; refine (shape_any b 2 1 100 g5 H5.out.2.2.1 (by omega) V5 H5.out.1).mono ?_; rintro e6 V6 ⟨ya, yc, rfl, q1, q2⟩; have H6 := Lib.hid q2; obtain ⟨xb, xo, xb2, xo2, xc2, rfl, x1, x2⟩ := shp_3 (awk_x H3.out.1 H3.out.2.1 H4.out.1 H5.out.2.2.2.1 q2); rw [H5.out.2.1] at q1; obtain ⟨yb, yo, yb2, yo2, yc2, ya3, yc3, rfl, y1, y2, y3⟩ := shp_12 q1; clear q1 q2 tok5 _t))
  go_ret
  have h0 := And.intro H0.out.2.2.1 (And.intro H0.out.2.2.1.size H0.out.2.2.2)
  have h1 := low_step h0 H1.out.2.2.1 H1.out.2.2.2
  have h2 := low_step h1 H2.out.2.2.1 H2.out.2.2.2
  have h3 := low_on (low_step h2 H3.out.2.2.1 H3.out.2.2.2) H4.out.2
  have h5 := low_on (low_step h3 H5.out.2.2.2.1 H5.out.2.2.2.2) H6.out
  exact ⟨rfl, h5.1⟩
end Go.Proofs.Ytbempjkkohjnbaa
