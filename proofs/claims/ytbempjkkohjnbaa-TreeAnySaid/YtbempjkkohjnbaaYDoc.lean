/- Joined: Doc1, Doc2, Doc3, Doc4. -/
import Derived.Test.YtbempjkkohjnbaaYTreeE
import Derived.OwnWalk
/- The document's list: At, Has, check, Ceil, Get. -/
namespace Go.Proofs.Ytbempjkkohjnbaa
open Go.RowKit Tr
open Ky (less)

/-- The document's list in memory. -/
structure Lst (w : World) (r : Nat) (F : Foot) (a : Option Addr) (c : Nat) (L : List Pr) : Prop where
  c0 : w.cell? ⟨r, 0, none⟩ = some (.slice a L.length c)
  f0 : w.frozen? ⟨r, 0, none⟩ = false
  sl : Sl w 2 F a L.length c (pairsV L)
  rf : ∀ x, ¬ F r x
  lf : Lies w F
def lstF (r : Nat) (F : Foot) : Foot := fun k x => k = r ∨ F k x
theorem Lst.fr {S F : Foot} {w w' : World} {r : Nat} {a : Option Addr} {c : Nat} {L : List Pr} (h : Lst w r F a c L) (hf : Fr S w w') (hd : Apart (lstF r F) S) : Lst w' r F a c L := by
  have hb := block_of_cell h.c0
  exact ⟨(hf.cell _ _ hb (hd _ _ (.inl rfl))).trans h.c0, (hf.froz _ _ hb (hd _ _ (.inl rfl))).trans h.f0, h.sl.fr hf (fun b x hx => hd b x (.inr hx)), h.rf, h.lf.later hf⟩
theorem Lst.later {F : Foot} {w w' : World} {r : Nat} {a : Option Addr} {c : Nat} {L : List Pr} (h : Lst w r F a c L) (hb : Below w.heap.size w w') : Lst w' r F a c L := h.fr (Fr.ofBelow hb noCells) (fun _ _ _ h => h)
theorem Lst.pair {F : Foot} {w : World} {r : Nat} {a : Option Addr} {c : Nat} {L : List Pr} (h : Lst w r F a c L) {i : Nat} {p : Pr} (hp : L[i]? = some p) :
    ∃ b o, a = some ⟨b, o, none⟩ ∧ w.cell? ⟨b, o + i * 2, none⟩ = some (.string ⟨p.1.toArray⟩) ∧ w.cell? ⟨b, o + i * 2 + 1, none⟩ = some (.string ⟨p.2.toArray⟩) := by
  have hi := (List.getElem?_eq_some_iff.1 hp).1
  obtain ⟨b, o, e, h1, h2, h3⟩ := h.sl.addr (by omega)
  obtain ⟨g1, g2⟩ := pairsV_get hp
  exact ⟨b, o, e, h2 _ _ g1, by have := h2 _ _ g2; rwa [← Nat.add_assoc] at this⟩
set_option maxHeartbeats 1000000 in
theorem at_any (r : Nat) (F : Foot) (a : Option Addr) (c : Nat) (L : List Pr) (key : Str) (hn : L.length ≤ 1000000) (w : World) (h : Lst w r F a c L) :
    Calls Try.prog 54 #[ptrV r, .string ⟨key.toArray⟩] w fun e V => e = .returned (.int .i64 (pl key L : Nat)) ∧ w = V := by
  have c0 := h.c0
  obtain ⟨P, hP⟩ : ∃ P, pl key L = P := ⟨_, rfl⟩
  obtain ⟨n, hL⟩ : ∃ n, L.length = n := ⟨_, rfl⟩
  rw [hL] at c0 hn
  have HP := Lib.hid hP
  have HL := Lib.hid hL
  have HH := Lib.hid h
  rw [hP]
  have hn2 : (n : Int) ≤ 1000000 := by omega
  clear hP hL h
  go_enter Try.func54, Try.ntmps54
  go_wp2
  go_loopw [5] (fun v wr => ∃ k : Nat, v = .int .i64 k ∧ k ≤ n ∧ wr = w ∧ Hid (∀ j p, j < k → L[j]? = some p → less p.1 key = true)) (fun v _ => n - (intOf v).toNat)
  case atStart => exact ⟨0, rfl, by omega, rfl, Lib.hid (fun j p hj => by omega)⟩
  case round =>
    obtain ⟨k, rfl, hk, rfl, HJ⟩ := hrel
    by_cases hlt : k < n
    · obtain ⟨p, hp⟩ : ∃ p, L[k]? = some p := ⟨_, List.getElem?_eq_getElem (by rw [HL.out]; exact hlt)⟩
      obtain ⟨b, o, rfl, p1, _⟩ := HH.out.pair hp
      have hq := str_lss 9 p.1 key
      have hk0 : (0 : Int) ≤ (k : Int) := by omega
      have hk1 : (k : Int) < (n : Int) := by omega
      have HG := Lib.hid hp
      cases hl : Op.bytesLess p.1 key with
      | true =>
        rw [hl] at hq
        have HJ2 : Hid (∀ j q, j < k + 1 → L[j]? = some q → less q.1 key = true) := Lib.hid (fun j q hj hq => by
          by_cases e : j = k
          · subst e; rw [hp] at hq; cases hq; exact hl
          · exact HJ.out j q (by omega) hq)
        clear hp hl
        go_wp2
        refine ⟨⟨k + 1, ?_, by omega, trivial, HJ2⟩, ?_⟩
        · first | rfl | simp
        · simp [intOf]; omega
      | false =>
        rw [hl] at hq
        have HE : Hid (P = k) := Lib.hid (by rw [← HP.out]; exact pl_of (by rw [HL.out]; omega) HJ.out (fun q hq => by rw [hp] at hq; cases hq; exact hl))
        clear hp hl
        go_wp2
        go_ret
        rw [HE.out]
        exact ⟨rfl, rfl⟩
    · have hkn : k = n := by omega
      have HE : Hid (P = k) := Lib.hid (by rw [← HP.out]; exact pl_of (by rw [HL.out]; omega) HJ.out (fun q hq => by rw [List.getElem?_eq_none (by rw [HL.out]; omega)] at hq; cases hq))
      have hk1 : ¬ (k : Int) < (n : Int) := by omega
      clear hkn
      go_wp2
      go_ret
      rw [HE.out]
      exact ⟨rfl, rfl⟩
set_option maxHeartbeats 400000 in
theorem checkD_any (k : Str) (w : World) :
    Calls Try.prog 60 #[.string ⟨k.toArray⟩] w fun e w' => e = .returned (.int .i64 (chkT k)) ∧ w = w' := by
  by_cases h1 : k.length < 1
  · have hc : chkT k = 13 := by unfold chkT okTk; simp; omega
    rw [hc]
    clear hc
    go_enter Try.func60, Try.ntmps60
    go_wp2
    go_ret
    exact ⟨rfl, rfl⟩
  by_cases h2 : 64 < k.length
  · have hc : chkT k = 13 := by unfold chkT okTk; simp; omega
    rw [hc]
    clear hc
    go_enter Try.func60, Try.ntmps60
    go_wp2
    go_ret
    exact ⟨rfl, rfl⟩
  · have hc : chkT k = 0 := by unfold chkT okTk; simp; omega
    rw [hc]
    clear hc
    go_enter Try.func60, Try.ntmps60
    go_wp2
    go_ret
    exact ⟨rfl, rfl⟩
set_option maxHeartbeats 1000000 in
theorem has_any (r : Nat) (F : Foot) (a : Option Addr) (c : Nat) (L : List Pr) (key : Str) (hn : L.length ≤ 1000000) (w : World) (h : Lst w r F a c L) :
    Calls Try.prog 61 #[ptrV r, .string ⟨key.toArray⟩] w fun e V => e = .returned (.bool (hasAt key L)) ∧ w = V := by
  have c0 := h.c0
  have HA := Lib.hid (at_any r F a c L key hn w h)
  obtain ⟨P, hP⟩ : ∃ P, pl key L = P := ⟨_, rfl⟩
  obtain ⟨n, hL⟩ : ∃ n, L.length = n := ⟨_, rfl⟩
  rw [hL] at c0 hn
  rw [hP] at HA
  have hn2 : (n : Int) ≤ 1000000 := by omega
  by_cases hlt : P < n
  · obtain ⟨p, hp⟩ : ∃ p, L[P]? = some p := ⟨_, List.getElem?_eq_getElem (by rw [hL]; exact hlt)⟩
    obtain ⟨b, o, rfl, p1, _⟩ := h.pair hp
    have hq := str_eql 9 p.1 key
    have HE : Hid (hasAt key L = (p.1 == key)) := Lib.hid (by unfold hasAt; rw [hP, hp])
    have hk0 : (0 : Int) ≤ (P : Int) := by omega
    have hk1 : (P : Int) < (n : Int) := by omega
    obtain ⟨v, hv⟩ : ∃ v, hasAt key L = v := ⟨_, rfl⟩
    rw [← HE.out, hv] at hq
    rw [hv]
    clear hP hL h hp HE hv
    go_enter Try.func61, Try.ntmps61
    go_wp2_with (go_at_call 54; refine HA.out.mono ?_; rintro e V ⟨rfl, rfl⟩)
    go_ret
    exact ⟨rfl, rfl⟩
  · have HE : Hid (hasAt key L = false) := Lib.hid (by unfold hasAt; rw [hP, List.getElem?_eq_none (by rw [hL]; omega)])
    have hk1 : ¬ (P : Int) < (n : Int) := by omega
    rw [HE.out]
    clear hP hL h HE
    go_enter Try.func61, Try.ntmps61
    go_wp2_with (go_at_call 54; refine HA.out.mono ?_; rintro e V ⟨rfl, rfl⟩)
    go_ret
    exact ⟨rfl, rfl⟩
set_option maxHeartbeats 1000000 in
theorem ceilD_any (r : Nat) (F : Foot) (a : Option Addr) (c : Nat) (L : List Pr) (key : Str) (hn : L.length ≤ 1000000) (w : World) (h : Lst w r F a c L) :
    Calls Try.prog 39 #[ptrV r, .string ⟨key.toArray⟩] w fun e V => e = .returned (.tuple #[.string ⟨(ckey (ceil key L)).toArray⟩, .string ⟨(cval (ceil key L)).toArray⟩, .int .i64 (ccode (ceil key L))]) ∧ Below w.heap.size w V := by
  have c0 := h.c0
  have HA := Lib.hid (at_any r F a c L key hn w h)
  have hce := ceil_place key L
  obtain ⟨P, hP⟩ : ∃ P, pl key L = P := ⟨_, rfl⟩
  obtain ⟨n, hL⟩ : ∃ n, L.length = n := ⟨_, rfl⟩
  have hle : P ≤ n := by rw [← hP, ← hL]; exact pl_le key L
  rw [hL] at c0 hn
  rw [hP] at HA hce
  have hn2 : (n : Int) ≤ 1000000 := by omega
  by_cases hlt : P < n
  · obtain ⟨p, hp⟩ : ∃ p, L[P]? = some p := ⟨_, List.getElem?_eq_getElem (by rw [hL]; exact hlt)⟩
    obtain ⟨b, o, rfl, p1, p2⟩ := h.pair hp
    rw [hce, hp]
    have hk0 : (0 : Int) ≤ (P : Int) := by omega
    have hk1 : (P : Int) < (n : Int) := by omega
    have hk2 : ¬ (P : Int) = (n : Int) := by omega
    have hk3 : ¬ P = n := by omega
    simp only [ckey, cval, ccode]
    clear hP hL h hp hce
    go_enter Try.func39, Try.ntmps39
    go_wp2_with (go_at_call 54; refine HA.out.mono ?_; rintro e V ⟨rfl, rfl⟩)
    go_quiet (fail)
    go_wp2
    go_ret3
    exact ⟨rfl, below_drewN _ _⟩
  · obtain rfl : P = n := by omega
    rw [hce, List.getElem?_eq_none (by rw [hL]; omega)]
    simp only [ckey, cval, ccode]
    clear hP hL h hce
    go_enter Try.func39, Try.ntmps39
    go_wp2_with (go_at_call 54; refine HA.out.mono ?_; rintro e V ⟨rfl, rfl⟩)
    go_ret3
    exact ⟨rfl, Below.refl _ _⟩
end Go.Proofs.Ytbempjkkohjnbaa

/- The document's list: Get, Delete, Put. -/
namespace Go.Proofs.Ytbempjkkohjnbaa
open Go.RowKit Tr
open Ky (less)

theorem get_at {key : Str} {L : List Pr} {v : Str} (h : get key L = some v) : L[pl key L]? = some (key, v) := by
  have h1 := get_ceil key L
  rw [h, ceil_place] at h1
  cases hq : L[pl key L]? with
  | none => rw [hq] at h1; cases h1
  | some q =>
    rw [hq] at h1
    simp only at h1
    split at h1
    · next e => cases h1; rw [← e]
    · cases h1
theorem has_get (key : Str) (L : List Pr) : hasAt key L = (get key L).isSome := by
  have h1 := get_ceil key L
  rw [ceil_place] at h1
  unfold hasAt
  rw [h1]
  cases L[pl key L]? with
  | none => rfl
  | some q => by_cases e : q.1 = key <;> simp [e]
set_option maxHeartbeats 1000000 in
theorem getD_any (r : Nat) (F : Foot) (a : Option Addr) (c : Nat) (L : List Pr) (key : Str) (hk : okTk key = true) (hn : L.length ≤ 1000000) (w : World) (h : Lst w r F a c L) :
    Calls Try.prog 50 #[ptrV r, .string ⟨key.toArray⟩] w fun e V => e = .returned (.tuple #[.string ⟨(oldS key L).toArray⟩, .int .i64 (cdel key L)]) ∧ Below w.heap.size w V := by
  have HC := Lib.hid (fun W => checkD_any key W)
  rw [show chkT key = 0 by unfold chkT; rw [hk]; rfl] at HC
  have c0 := h.c0
  have HH := Lib.hid (has_any r F a c L key hn w h)
  rw [has_get] at HH
  cases hg : get key L with
  | none =>
    rw [hg] at HH
    have HE : Hid (oldS key L = [] ∧ cdel key L = 14) := Lib.hid ⟨by unfold oldS; rw [hg]; rfl, by unfold cdel; rw [hg]; rfl⟩
    rw [HE.out.1, HE.out.2]
    clear hk h hg HE
    go_enter Try.func50, Try.ntmps50
    go_wp2_with (first
      | (go_at_call 60; refine (HC.out _).mono ?_; rintro e V ⟨rfl, rfl⟩)
      | (go_at_call 61; refine HH.out.mono ?_; rintro e V ⟨rfl, rfl⟩))
    go_ret2
    exact ⟨rfl, Below.refl _ _⟩
  | some v =>
    rw [hg] at HH
    have hp := get_at hg
    obtain ⟨b, o, rfl, p1, p2⟩ := h.pair hp
    have HE : Hid (oldS key L = v ∧ cdel key L = 0) := Lib.hid ⟨by unfold oldS; rw [hg]; rfl, by unfold cdel; rw [hg]; rfl⟩
    have hlt := (List.getElem?_eq_some_iff.1 hp).1
    obtain ⟨P, hP⟩ : ∃ P, pl key L = P := ⟨_, rfl⟩
    obtain ⟨n, hL⟩ : ∃ n, L.length = n := ⟨_, rfl⟩
    rw [hP] at p2 hlt
    simp only at p2
    have HA : Hid (∀ W, Below w.heap.size w W → Calls Try.prog 54 #[ptrV r, .string ⟨key.toArray⟩] W fun e V => e = .returned (.int .i64 P) ∧ (V.cell? ⟨r, 0, none⟩ = some (.slice (some ⟨b, o, none⟩) n c) ∧ V.cell? ⟨b, o + P * 2 + 1, none⟩ = some (.string ⟨v.toArray⟩)) ∧ Hid (Below w.heap.size w V)) := Lib.hid (fun W hb => by
      refine (at_any r F _ c L key hn W (h.later hb)).mono ?_
      rintro e V ⟨rfl, rfl⟩
      exact ⟨by rw [hP], ⟨by rw [← hL]; exact (h.later hb).c0, old_cell p2 hb⟩, Lib.hid hb⟩)
    rw [hL] at c0 hn hlt
    have hk0 : (0 : Int) ≤ (P : Int) := by omega
    have hk1 : (P : Int) < (n : Int) := by omega
    have hn2 : (n : Int) ≤ 1000000 := by omega
    rw [HE.out.1, HE.out.2]
    clear hk h hg HE hp hP hL p1
    go_enter Try.func50, Try.ntmps50
    go_wp2_with (first
      | (go_at_call 60; refine (HC.out _).mono ?_; rintro e V ⟨rfl, rfl⟩)
      | (go_at_call 61; refine HH.out.mono ?_; rintro e V ⟨rfl, rfl⟩))
    go_region_held3 (fun V => V.cell? ⟨r, 0, none⟩ = some (.slice (some ⟨b, o, none⟩) n c) ∧ V.cell? ⟨b, o + P * 2 + 1, none⟩ = some (.string ⟨v.toArray⟩))
      (first | exact ⟨c0, p2⟩ | exact y0)
      ((go_at_call 54; refine (HA.out _ (below_drewN _ 1)).mono ?_; rintro e V ⟨rfl, y0, HB⟩))
    rename_i hHeld
    go_wp2
    go_ret2
    exact ⟨rfl, HB.out⟩
set_option maxHeartbeats 1000000 in
theorem getD_bad (r : Nat) (key : Str) (hk : okTk key = false) (w : World) :
    Calls Try.prog 50 #[ptrV r, .string ⟨key.toArray⟩] w fun e V => e = .returned (.tuple #[.string ⟨#[]⟩, .int .i64 13]) ∧ w = V := by
  have HC := Lib.hid (fun W => checkD_any key W)
  rw [show chkT key = 13 by unfold chkT; rw [hk]; rfl] at HC
  clear hk
  go_enter Try.func50, Try.ntmps50
  go_wp2_with (go_at_call 60; refine (HC.out _).mono ?_; rintro e V ⟨rfl, rfl⟩)
  go_ret2
  exact ⟨rfl, rfl⟩
end Go.Proofs.Ytbempjkkohjnbaa

/- The document's list: Delete. -/
namespace Go.Proofs.Ytbempjkkohjnbaa
open Go.RowKit Tr
open Ky (less)

theorem Try.infoPairD : (Try.prog.info? 38).map (fun i => (i.zero, i.size, i.bytes)) = some (some (.agg #[.string ⟨#[]⟩, .string ⟨#[]⟩]), 2, 32) := by kernel_rfl
/-- What a call leaves of the list. -/
def LstTo (w : World) (r : Nat) (F : Foot) (L' : List Pr) (V : World) : Prop := ∃ F' a' c', Lst V r F' a' c' L' ∧ Fr (fun k _ => k = r) w V ∧ (F' = F ∨ ∀ k x, F' k x → w.heap.size ≤ k)
theorem LstTo.old {w V : World} {r : Nat} {F : Foot} {L' : List Pr} (h : LstTo w r F L' V) : ∃ F' a' c', Lst V r F' a' c' L' ∧ Fr (lstF r F) w V ∧ Grew w (lstF r F) (lstF r F') := by
  obtain ⟨F', a', c', h1, h2, h3⟩ := h
  refine ⟨F', a', c', h1, h2.mono (fun _ _ h => .inl h), ?_⟩
  rintro k x (e | e)
  · exact .inl (.inl e)
  · rcases h3 with rfl | h3
    · exact .inl (.inr e)
    · exact .inr (h3 k x e)
theorem Lst.stay {w V : World} {r : Nat} {F : Foot} {a : Option Addr} {c : Nat} {L : List Pr} (h : Lst w r F a c L) (hb : Below w.heap.size w V) : LstTo w r F L V := ⟨F, a, c, h.later hb, Fr.ofBelow hb _, .inl rfl⟩
theorem Lst.set {w W : World} {r : Nat} {F : Foot} {a : Option Addr} {c : Nat} {L L' : List Pr} (h : Lst w r F a c L) {a' : Option Addr} {N c' : Nat} (ho : Loc 2 w W a' N c' (pairsV L')) (hN : L'.length = N) : LstTo w r F L' (W.setCell ⟨r, 0, none⟩ (.slice a' N c')) := by
  obtain ⟨F', h1, h2, h3, h4⟩ := ho
  have hr : r < w.heap.size := block_of_cell h.c0
  have hL := h.later h4
  have hf := fr_own W r 0 (.slice a' N c')
  have hnr : ∀ x, ¬ F' r x := fun x hx => by have := h3 r x hx; omega
  subst hN
  refine ⟨F', a', c', ⟨World.cell?_setCell_same' _ _ _ (by rw [hL.c0]; rfl), by rw [World.frozen?_setCell]; exact hL.f0, h1.fr hf (fun b x hx e => hnr x (by cases e; exact hx)), hnr, h2.later hf⟩, (Fr.ofBelow h4 _).trans hf (fun _ _ e => .inl e), .inr (fun k x e => h3 k x e)⟩
theorem del_at {key : Str} {L : List Pr} {v : Str} (h : get key L = some v) : del key L = L.take (pl key L) ++ L.drop (pl key L + 1) := by
  have := del_place key L
  rwa [h, if_neg (by simp)] at this
set_option maxHeartbeats 2000000 in
set_option maxRecDepth 100000 in
theorem delD_found (r : Nat) (F : Foot) (a : Option Addr) (c : Nat) (L : List Pr) (key v : Str) (hk : okTk key = true) (hg : get key L = some v) (hn : L.length ≤ 100000) (w : World) (h : Lst w r F a c L) :
    Calls Try.prog 49 #[ptrV r, .string ⟨key.toArray⟩] w fun e V => e = .returned (.tuple #[.string ⟨v.toArray⟩, .int .i64 0]) ∧ LstTo w r F (del key L) V := by
  obtain ⟨i0, hi, hz0, hz1, hz2⟩ := info_parts Try.infoPairD
  have HG := Lib.hid (getD_any r F a c L key hk (by omega) w h)
  rw [show oldS key L = v by unfold oldS; rw [hg]; rfl, show cdel key L = 0 by unfold cdel; rw [hg]; rfl] at HG
  have hp := get_at hg
  have hlt := (List.getElem?_eq_some_iff.1 hp).1
  have hD := Lib.hid (del_at hg)
  obtain ⟨P, hP⟩ : ∃ P, pl key L = P := ⟨_, rfl⟩
  obtain ⟨n, hL⟩ : ∃ n, L.length = n := ⟨_, rfl⟩
  have HA : Hid (∀ W, Below w.heap.size w W → Calls Try.prog 54 #[ptrV r, .string ⟨key.toArray⟩] W fun e V => e = .returned (.int .i64 P) ∧ W = V) := Lib.hid (fun W hb => by
    have := at_any r F a c L key (by omega) W (h.later hb)
    rwa [hP] at this)
  rw [hP] at hD hlt
  have hs := h.sl
  have c0 := h.c0
  rw [hL] at hs c0 hlt hn
  have hnc := hs.le
  have hcap : c ≤ maxLen := hs.cap
  have HH := Lib.hid h
  have HL := Lib.hid hL
  have ht := to_ex (P := Try.prog) 31 Try.underlying31 2 Try.sizeOf38 a n c .i64 P (by omega)
  obtain ⟨sa, hsa, hRS⟩ : ∃ sa, (∀ W : World, (Instr.slice 31 (.slice a n c) (some (.int .i64 ((P : Int) + 1))) none none).run Try.prog W = .ok (.slice sa (n - (P + 1)) (c - (P + 1))) W) ∧ ∀ W : World, Rd W 2 a n c (pairsV L) → Rd W 2 sa (n - (P + 1)) (c - (P + 1)) ((pairsV L).drop ((P + 1) * 2)) :=
    ⟨_, fun W => run_slice_from 31 Try.underlying31 2 Try.sizeOf38 a n c .i64 ((P : Int) + 1) (P + 1) (by omega) (by omega) W, fun _ h => h.from (P + 1) (by omega)⟩
  have HRS := Lib.hid hRS
  have HR1 : Hid (∀ W, Below w.heap.size w W → Rd W 2 a P c (pairsV (L.take P))) := Lib.hid (fun W hb => by
    have := (h.later hb).sl
    rw [hL] at this
    have := this.rd.to P (by omega)
    rwa [pairsV_take] at this)
  have HR2 : Hid (∀ W, Below w.heap.size w W → Rd W 2 sa (n - (P + 1)) (c - (P + 1)) (pairsV (L.drop (P + 1)))) := Lib.hid (fun W hb => by
    have := (h.later hb).sl
    rw [hL] at this
    have := hRS W this.rd
    rwa [pairsV_drop] at this)
  have hP0 : (0 : Int) ≤ (P : Int) := by omega
  have hP1 : (P : Int) ≤ 100000 := by omega
  have hrb : r < w.heap.size := block_of_cell c0
  have f0 := h.f0
  clear hk hg h hp hs hL hP hRS
  go_enter Try.func49, Try.ntmps49
  go_wp2_with (first
    | (go_at_call 50; refine HG.out.mono ?_; rintro e W ⟨rfl, hb⟩; have HB := Lib.hid hb; have y0 := old_cell c0 hb; clear hb)
    | (go_at_call 54; refine (HA.out _ HB.out).mono ?_; rintro e W2 ⟨rfl, rfl⟩)
    | (at_builtin; refine wpList_app_loc rfl (.tmp 22) (.tmp 28) 31 rfl 38 i0 _ 2 32 Try.underlying31 hi hz0 hz1 hz2 rfl (by decide) w none 0 0 [] rfl (Loc.start 2 w W HB.out) a P c (pairsV (L.take P)) rfl (HR1.out _ HB.out) P (pairsV (L.take P)) (Nat.zero_add P) (List.nil_append _) (by unfold maxLen; omega) (by omega) ?_; intro a1 c1 w1 ho; have H1 := Lib.hid ho; have y1 := old_cell c0 ho.low; have y2 := (ho.low.frozen (p := ⟨r, 0, none⟩) hrb).trans f0; clear ho)
    | (at_builtin; refine wpList_app_loc rfl (.tmp 31) (.tmp 38) 31 rfl 38 i0 _ 2 32 Try.underlying31 hi hz0 hz1 hz2 rfl (by decide) w a1 P c1 (pairsV (L.take P)) rfl H1.out sa (n - (P + 1)) (c - (P + 1)) (pairsV (L.drop (P + 1))) rfl (HR2.out _ H1.out.low) (P + (n - (P + 1))) (pairsV (L.take P ++ L.drop (P + 1))) rfl (pairsV_append _ _).symm (by unfold maxLen; omega) (by omega) ?_; intro a2 c2 w2 ho; have H2 := Lib.hid ho; have z1 := old_cell c0 ho.low; have z2 := (ho.low.frozen (p := ⟨r, 0, none⟩) hrb).trans f0; clear ho))
  go_ret2
  rw [hD.out]
  exact ⟨rfl, HH.out.set H2.out (by rw [List.length_append, List.length_take, List.length_drop, HL.out]; omega)⟩
end Go.Proofs.Ytbempjkkohjnbaa

/- The document's list: Delete's other ends; Put. -/
namespace Go.Proofs.Ytbempjkkohjnbaa
open Go.RowKit Tr
open Ky (less)

set_option maxHeartbeats 1000000 in
theorem delD_none (r : Nat) (F : Foot) (a : Option Addr) (c : Nat) (L : List Pr) (key : Str) (hk : okTk key = true) (hg : get key L = none) (hn : L.length ≤ 100000) (w : World) (h : Lst w r F a c L) :
    Calls Try.prog 49 #[ptrV r, .string ⟨key.toArray⟩] w fun e V => e = .returned (.tuple #[.string ⟨#[]⟩, .int .i64 14]) ∧ Below w.heap.size w V := by
  have HG := Lib.hid (getD_any r F a c L key hk (by omega) w h)
  rw [show oldS key L = [] by unfold oldS; rw [hg]; rfl, show cdel key L = 14 by unfold cdel; rw [hg]; rfl] at HG
  clear hk hg h
  go_enter Try.func49, Try.ntmps49
  go_wp2_with (go_at_call 50; refine HG.out.mono ?_; rintro e W ⟨rfl, hb⟩; have HB := Lib.hid hb; clear hb)
  go_ret2
  exact ⟨rfl, HB.out⟩
set_option maxHeartbeats 1000000 in
theorem delD_bad (r : Nat) (key : Str) (hk : okTk key = false) (w : World) :
    Calls Try.prog 49 #[ptrV r, .string ⟨key.toArray⟩] w fun e V => e = .returned (.tuple #[.string ⟨#[]⟩, .int .i64 13]) ∧ w = V := by
  have HG := Lib.hid (getD_bad r key hk w)
  clear hk
  go_enter Try.func49, Try.ntmps49
  go_wp2_with (go_at_call 50; refine HG.out.mono ?_; rintro e W ⟨rfl, rfl⟩)
  go_ret2
  exact ⟨rfl, rfl⟩
set_option maxHeartbeats 1000000 in
theorem putD_bad (r : Nat) (key v : Str) (hk : okTk key = false) (w : World) :
    Calls Try.prog 48 #[ptrV r, .string ⟨key.toArray⟩, .string ⟨v.toArray⟩] w fun e V => e = .returned (.tuple #[.string ⟨#[]⟩, .bool false, .int .i64 13]) ∧ w = V := by
  have HC := Lib.hid (fun W => checkD_any key W)
  rw [show chkT key = 13 by unfold chkT; rw [hk]; rfl] at HC
  clear hk
  go_enter Try.func48, Try.ntmps48
  go_wp2_with (go_at_call 60; refine (HC.out _).mono ?_; rintro e V ⟨rfl, rfl⟩)
  go_ret3
  exact ⟨rfl, rfl⟩
set_option maxHeartbeats 1000000 in
theorem putD_long (r : Nat) (key v : Str) (hk : okTk key = true) (hv : 256 < v.length) (w : World) :
    Calls Try.prog 48 #[ptrV r, .string ⟨key.toArray⟩, .string ⟨v.toArray⟩] w fun e V => e = .returned (.tuple #[.string ⟨#[]⟩, .bool false, .int .i64 23]) ∧ w = V := by
  have HC := Lib.hid (fun W => checkD_any key W)
  rw [show chkT key = 0 by unfold chkT; rw [hk]; rfl] at HC
  have hv2 : (256 : Int) < v.length := by omega
  clear hk hv
  go_enter Try.func48, Try.ntmps48
  go_wp2_with (go_at_call 60; refine (HC.out _).mono ?_; rintro e V ⟨rfl, rfl⟩)
  go_ret3
  exact ⟨rfl, rfl⟩
theorem pairV_one (key v : Str) : pairsV [(key, v)] = [.string ⟨key.toArray⟩, .string ⟨v.toArray⟩] := rfl
set_option maxHeartbeats 2000000 in
set_option maxRecDepth 100000 in
theorem putD_new (r : Nat) (F : Foot) (a : Option Addr) (c : Nat) (L : List Pr) (key v : Str) (hg : get key L = none) (hk : okTk key = true) (hv : v.length ≤ 256) (hn : L.length ≤ 100000) (w : World) (h : Lst w r F a c L) :
    Calls Try.prog 48 #[ptrV r, .string ⟨key.toArray⟩, .string ⟨v.toArray⟩] w fun e V => e = .returned (.tuple #[.string ⟨#[]⟩, .bool false, .int .i64 0]) ∧ LstTo w r F (ins (key, v) L) V := by
  obtain ⟨i0, hi, hz0, hz1, hz2⟩ := info_parts Try.infoPairD
  have HC := Lib.hid (fun W => checkD_any key W)
  rw [show chkT key = 0 by unfold chkT; rw [hk]; rfl] at HC
  have HS := Lib.hid (has_any r F a c L key (by omega) w h)
  rw [has_get, hg] at HS
  have HA := Lib.hid (at_any r F a c L key (by omega) w h)
  have hI0 := ins_place (key, v) L
  rw [show (key, v).1 = key from rfl, hg] at hI0
  obtain ⟨P, hP⟩ : ∃ P, pl key L = P := ⟨_, rfl⟩
  obtain ⟨n, hL⟩ : ∃ n, L.length = n := ⟨_, rfl⟩
  have hle : P ≤ n := by rw [← hP, ← hL]; exact pl_le key L
  rw [hP] at HA hI0
  have hI : Hid (ins (key, v) L = (L.take P ++ [(key, v)]) ++ L.drop P) := Lib.hid (by rw [hI0]; simp)
  clear hI0
  have hs := h.sl
  have c0 := h.c0
  rw [hL] at hs c0 hn
  have hnc := hs.le
  have hcap : c ≤ maxLen := hs.cap
  have HH := Lib.hid h
  have HL := Lib.hid hL
  have ht := to_ex (P := Try.prog) 31 Try.underlying31 2 Try.sizeOf38 a n c .i64 P (by omega)
  obtain ⟨sa, hsa, hRS⟩ : ∃ sa, (∀ W : World, (Instr.slice 31 (.slice a n c) (some (.int .i64 (P : Int))) none none).run Try.prog W = .ok (.slice sa (n - P) (c - P)) W) ∧ ∀ W : World, Rd W 2 a n c (pairsV L) → Rd W 2 sa (n - P) (c - P) ((pairsV L).drop (P * 2)) :=
    ⟨_, fun W => run_slice_from 31 Try.underlying31 2 Try.sizeOf38 a n c .i64 (P : Int) P (by omega) (by omega) W, fun _ h => h.from P (by omega)⟩
  have HR1 : Hid (∀ W, Below w.heap.size w W → Rd W 2 a P c (pairsV (L.take P))) := Lib.hid (fun W hb => by
    have := (h.later hb).sl
    rw [hL] at this
    have := this.rd.to P (by omega)
    rwa [pairsV_take] at this)
  have HR2 : Hid (∀ W, Below w.heap.size w W → Rd W 2 sa (n - P) (c - P) (pairsV (L.drop P))) := Lib.hid (fun W hb => by
    have := (h.later hb).sl
    rw [hL] at this
    have := hRS W this.rd
    rwa [pairsV_drop] at this)
  have hP0 : (0 : Int) ≤ (P : Int) := by omega
  have hP1 : (P : Int) ≤ 100000 := by omega
  have hvi : (v.length : Int) ≤ 256 := by omega
  have hrb : r < w.heap.size := block_of_cell c0
  have f0 := h.f0
  clear hk hg h hs hL hP hRS hv
  go_enter Try.func48, Try.ntmps48
  go_wp2_with (first
    | (go_at_call 60; refine (HC.out _).mono ?_; rintro e V ⟨rfl, rfl⟩)
    | (go_at_call 54; refine HA.out.mono ?_; rintro e V ⟨rfl, rfl⟩)
    | (go_at_call 61; refine HS.out.mono ?_; rintro e V ⟨rfl, rfl⟩)
    | (at_builtin; refine wpList_app_loc rfl (.tmp 25) (.tmp 31) 31 rfl 38 i0 _ 2 32 Try.underlying31 hi hz0 hz1 hz2 rfl (by decide) w none 0 0 [] rfl (Loc.start 2 w w (Below.refl _ _)) a P c (pairsV (L.take P)) rfl (HR1.out _ (Below.refl _ _)) P (pairsV (L.take P)) (Nat.zero_add P) (List.nil_append _) (by unfold maxLen; omega) (by omega) ?_; intro a1 c1 w1 ho; have H1 := Lib.hid ho; clear ho)
    | (at_builtin; refine wpList_app_loc rfl (.tmp 33) (.tmp 37) 31 rfl 38 i0 _ 2 32 Try.underlying31 hi hz0 hz1 hz2 rfl (by decide) w a1 P c1 (pairsV (L.take P)) rfl (H1.out.later (al1 _ _)) (some ⟨w1.heap.size, 0, none⟩) 1 1 (pairsV [(key, v)]) rfl (Rd.twoNew w1 _ _ _ rfl rfl) (P + 1) (pairsV (L.take P ++ [(key, v)])) rfl (pairsV_append _ _).symm (by unfold maxLen; omega) (by omega) ?_; intro a2 c2 w2 ho; have H2 := Lib.hid ho; have y1 := old_cell c0 ho.low; have y2 := (ho.low.frozen (p := ⟨r, 0, none⟩) hrb).trans f0; clear ho)
    | (at_builtin; refine wpList_app_loc rfl (.tmp 51) (.tmp 57) 31 rfl 38 i0 _ 2 32 Try.underlying31 hi hz0 hz1 hz2 rfl (by decide) w a2 (P + 1) c2 (pairsV (L.take P ++ [(key, v)])) rfl H2.out sa (n - P) (c - P) (pairsV (L.drop P)) rfl (HR2.out _ H2.out.low) (P + 1 + (n - P)) (pairsV ((L.take P ++ [(key, v)]) ++ L.drop P)) rfl (pairsV_append _ _).symm (by unfold maxLen; omega) (by omega) ?_; intro a3 c3 w3 ho; have H3 := Lib.hid ho; have z1 := old_cell c0 ho.low; have z2 := (ho.low.frozen (p := ⟨r, 0, none⟩) hrb).trans f0; clear ho))
  go_ret3
  rw [hI.out]
  exact ⟨rfl, HH.out.set H3.out (by rw [List.length_append, List.length_append, List.length_take, List.length_drop, HL.out]; simp only [List.length_cons, List.length_nil]; omega)⟩
set_option maxHeartbeats 2000000 in
set_option maxRecDepth 100000 in
theorem putD_found (r : Nat) (F : Foot) (a : Option Addr) (c : Nat) (L : List Pr) (key v : Str) (u : Str) (hg : get key L = some u) (hk : okTk key = true) (hv : v.length ≤ 256) (hn : L.length ≤ 100000) (w : World) (h : Lst w r F a c L) :
    Calls Try.prog 48 #[ptrV r, .string ⟨key.toArray⟩, .string ⟨v.toArray⟩] w fun e V => e = .returned (.tuple #[.string ⟨u.toArray⟩, .bool true, .int .i64 0]) ∧ LstTo w r F (ins (key, v) L) V := by
  obtain ⟨i0, hi, hz0, hz1, hz2⟩ := info_parts Try.infoPairD
  have HC := Lib.hid (fun W => checkD_any key W)
  rw [show chkT key = 0 by unfold chkT; rw [hk]; rfl] at HC
  have hp := get_at hg
  have hlt := (List.getElem?_eq_some_iff.1 hp).1
  obtain ⟨b, o, ea, _, p2⟩ := h.pair hp
  simp only at p2
  have HS := Lib.hid (has_any r F a c L key (by omega) w h)
  rw [has_get, hg] at HS
  have HA := Lib.hid (at_any r F a c L key (by omega) w h)
  have hI0 := ins_place (key, v) L
  rw [show (key, v).1 = key from rfl, hg] at hI0
  obtain ⟨P, hP⟩ : ∃ P, pl key L = P := ⟨_, rfl⟩
  obtain ⟨n, hL⟩ : ∃ n, L.length = n := ⟨_, rfl⟩
  have hle : P ≤ n := by rw [← hP, ← hL]; exact pl_le key L
  rw [hP] at HA hI0
  have hI : Hid (ins (key, v) L = (L.take P ++ [(key, v)]) ++ L.drop (P + 1)) := Lib.hid (by rw [hI0]; simp)
  clear hI0
  rw [hP] at p2 hlt
  have hlt : P < n := by rw [← hL]; exact hlt
  have hs := h.sl
  have c0 := h.c0
  rw [hL] at hs c0 hn
  have hnc := hs.le
  have hcap : c ≤ maxLen := hs.cap
  have HH := Lib.hid h
  have HL := Lib.hid hL
  have ht := to_ex (P := Try.prog) 31 Try.underlying31 2 Try.sizeOf38 a n c .i64 P (by omega)
  obtain ⟨sa, hsa, hRS⟩ : ∃ sa, (∀ W : World, (Instr.slice 31 (.slice a n c) (some (.int .i64 ((P : Int) + 1))) none none).run Try.prog W = .ok (.slice sa (n - (P + 1)) (c - (P + 1))) W) ∧ ∀ W : World, Rd W 2 a n c (pairsV L) → Rd W 2 sa (n - (P + 1)) (c - (P + 1)) ((pairsV L).drop ((P + 1) * 2)) :=
    ⟨_, fun W => run_slice_from 31 Try.underlying31 2 Try.sizeOf38 a n c .i64 ((P : Int) + 1) (P + 1) (by omega) (by omega) W, fun _ h => h.from (P + 1) (by omega)⟩
  have HR1 : Hid (∀ W, Below w.heap.size w W → Rd W 2 a P c (pairsV (L.take P))) := Lib.hid (fun W hb => by
    have := (h.later hb).sl
    rw [hL] at this
    have := this.rd.to P (by omega)
    rwa [pairsV_take] at this)
  have HR2 : Hid (∀ W, Below w.heap.size w W → Rd W 2 sa (n - (P + 1)) (c - (P + 1)) (pairsV (L.drop (P + 1)))) := Lib.hid (fun W hb => by
    have := (h.later hb).sl
    rw [hL] at this
    have := hRS W this.rd
    rwa [pairsV_drop] at this)
  have hP0 : (0 : Int) ≤ (P : Int) := by omega
  have hP1 : (P : Int) ≤ 100000 := by omega
  have hvi : (v.length : Int) ≤ 256 := by omega
  have hrb : r < w.heap.size := block_of_cell c0
  have f0 := h.f0
  have hPn : (P : Int) < (n : Int) := by omega
  clear hk hg h hs hL hP hRS hv hp
  subst ea
  go_enter Try.func48, Try.ntmps48
  go_wp2_with (first
    | (go_at_call 60; refine (HC.out _).mono ?_; rintro e V ⟨rfl, rfl⟩)
    | (go_at_call 54; refine HA.out.mono ?_; rintro e V ⟨rfl, rfl⟩)
    | (go_at_call 61; refine HS.out.mono ?_; rintro e V ⟨rfl, rfl⟩)
    | (at_builtin; refine wpList_app_loc rfl (.tmp 25) (.tmp 31) 31 rfl 38 i0 _ 2 32 Try.underlying31 hi hz0 hz1 hz2 rfl (by decide) w none 0 0 [] rfl (Loc.start 2 w w (Below.refl _ _)) (some ⟨b, o, none⟩) P c (pairsV (L.take P)) rfl (HR1.out _ (Below.refl _ _)) P (pairsV (L.take P)) (Nat.zero_add P) (List.nil_append _) (by unfold maxLen; omega) (by omega) ?_; intro a1 c1 w1 ho; have H1 := Lib.hid ho; clear ho)
    | (at_builtin; refine wpList_app_loc rfl (.tmp 33) (.tmp 37) 31 rfl 38 i0 _ 2 32 Try.underlying31 hi hz0 hz1 hz2 rfl (by decide) w a1 P c1 (pairsV (L.take P)) rfl (H1.out.later (al1 _ _)) (some ⟨w1.heap.size, 0, none⟩) 1 1 (pairsV [(key, v)]) rfl (Rd.twoNew w1 _ _ _ rfl rfl) (P + 1) (pairsV (L.take P ++ [(key, v)])) rfl (pairsV_append _ _).symm (by unfold maxLen; omega) (by omega) ?_; intro a2 c2 w2 ho; have H2 := Lib.hid ho; have y1 := old_cell c0 ho.low; have y2 := (ho.low.frozen (p := ⟨r, 0, none⟩) hrb).trans f0; have y3 := old_cell p2 (ho.low); clear ho)
    | (at_builtin; refine wpList_app_loc rfl (.tmp 51) (.tmp 57) 31 rfl 38 i0 _ 2 32 Try.underlying31 hi hz0 hz1 hz2 rfl (by decide) w a2 (P + 1) c2 (pairsV (L.take P ++ [(key, v)])) rfl H2.out sa (n - (P + 1)) (c - (P + 1)) (pairsV (L.drop (P + 1))) rfl (HR2.out _ H2.out.low) (P + 1 + (n - (P + 1))) (pairsV ((L.take P ++ [(key, v)]) ++ L.drop (P + 1))) rfl (pairsV_append _ _).symm (by unfold maxLen; omega) (by omega) ?_; intro a3 c3 w3 ho; have H3 := Lib.hid ho; have z1 := old_cell c0 ho.low; have z2 := (ho.low.frozen (p := ⟨r, 0, none⟩) hrb).trans f0; clear ho))
  go_ret3
  rw [hI.out]
  exact ⟨rfl, HH.out.set H3.out (by rw [List.length_append, List.length_append, List.length_take, List.length_drop, HL.out]; simp only [List.length_cons, List.length_nil]; omega)⟩
end Go.Proofs.Ytbempjkkohjnbaa
