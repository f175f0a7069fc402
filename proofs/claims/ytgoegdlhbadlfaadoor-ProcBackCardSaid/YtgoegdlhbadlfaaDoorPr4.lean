/- Package proc: nested, Check. -/
import Derived.Test.YtgoegdlhbadlfaaDoorPr3
import Derived.Deep.Cut
namespace Go.Proofs.YtgoegdlhbadlfaaDoor
namespace Pc
open Go.RowKit
def intP : Value → Int
  | .int _ n => n
  | _ => 0
def nsV (l : List Int) : List Value := l.map fun n => .int .i64 n
theorem nsV_len (l : List Int) : (nsV l).length = l.length := by simp [nsV]
theorem nsV_one (l : List Int) : ∀ u ∈ nsV l, u.oneCell' = true := by
  intro u hu
  obtain ⟨x, _, rfl⟩ := List.mem_map.1 hu
  rfl
theorem al1 (w : World) (o : Obj) : Below w.heap.size w (w.alloc o) := (Below.refl _ _).alloc (Nat.le_refl _) _
theorem Sl.prefix_ {w : World} {size : Nat} {F : Foot} {a : Option Addr} {n c : Nat} {xs : List Value} (h : Sl w size F a n c xs) (i : Nat) (hi : i ≤ n) : Sl w size F a i c (xs.take (i * size)) := by
  have := Nat.mul_le_mul_right size hi
  refine ⟨by rw [List.length_take, h.len]; omega, Nat.le_trans hi h.le, h.cap, h.nil, fun u hu => h.one u (List.mem_of_mem_take hu), fun x hx h0 => ?_⟩
  obtain ⟨b, o, e, g1, g2, g3⟩ := h.at_ x hx h0
  refine ⟨b, o, e, g1, fun j u hu => g2 j u ?_, g3⟩
  rw [List.getElem?_take] at hu
  split at hu
  · exact hu
  · cases hu
theorem Loc.to {size n c : Nat} {w0 w : World} {a : Option Addr} {xs : List Value} (h : Loc size w0 w a n c xs) (k : Nat) (hk : k ≤ n) : Loc size w0 w a k c (xs.take (k * size)) := by
  obtain ⟨F, h1, h2, h3, h4⟩ := h
  exact ⟨F, Pc.Sl.prefix_ h1 k hk, h2, h3, h4⟩
/-- The ends as a slice of the function's own: the innermost is the last. -/
def Ends (w0 w : World) (a : Option Addr) (c : Nat) (es : List Int) : Prop := Loc 1 w0 w a es.length c (nsV es.reverse)
theorem Ends.pop {w0 w : World} {a : Option Addr} {c : Nat} {e : Int} {es : List Int} (h : Ends w0 w a c (e :: es)) : Ends w0 w a c es := by
  have := Loc.to h es.length (by simp)
  rw [Nat.mul_one] at this
  have e : (nsV (e :: es).reverse).take es.length = nsV es.reverse := by
    unfold nsV
    rw [← List.map_take, List.reverse_cons, List.take_left' (by simp)]
  rw [e] at this
  exact this
theorem Ends.at_ {w0 w : World} {a : Option Addr} {c : Nat} {e : Int} {es : List Int} (h : Ends w0 w a c (e :: es)) : ∃ b o, a = some ⟨b, o, none⟩ ∧ w.cell? ⟨b, o + es.length, none⟩ = some (.int .i64 e) := by
  obtain ⟨b, o, h1, h2⟩ := (Loc.rd h).addr (by unfold nsV; simp)
  refine ⟨b, o, h1, h2 _ _ ?_⟩
  unfold nsV
  rw [List.getElem?_map, List.reverse_cons, List.getElem?_append_right (by simp)]
  simp
theorem Ends.later {w0 w w' : World} {a : Option Addr} {c : Nat} {es : List Int} (h : Ends w0 w a c es) (hb : Below w.heap.size w w') : Ends w0 w' a c es := Loc.later h hb
theorem ends_push (es : List Int) (e : Int) : nsV es.reverse ++ [.int .i64 e] = nsV (e :: es).reverse := by unfold nsV; simp
theorem pop_len (k : Int) : ∀ es : List Int, (pop k es).length ≤ es.length
  | [] => Nat.le_refl _
  | e :: es => by
    unfold pop
    split
    · exact Nat.le_trans (pop_len k es) (Nat.le_succ _)
    · exact Nat.le_refl _
theorem pop_mem (k : Int) : ∀ es : List Int, ∀ e ∈ pop k es, e ∈ es
  | [], e, h => h
  | x :: es, e, h => by
    unfold pop at h
    split at h
    · exact List.mem_cons_of_mem _ (pop_mem k es e h)
    · exact h
theorem wp_lift {P : Program} {c : Code} {Q : Exit → Act → World → Prop} {a : Act} {w : World} (h : ∀ V, V = w → Code.wp P c Q a V) : Code.wp P c Q a w := h w rfl
theorem infoI : (Tryd.prog.info? 3).map (fun i => (i.zero, i.size, i.bytes)) = some (some (.int .i64 0), 1, 8) := by kernel_rfl
theorem nest_step {l : List OpP} {k : Nat} {x : OpP} (h : l[k]? = some x) (n : Int) (es : List Int) : nestG n (l.drop k) k es =
    (if 8 < (pop k es).length then false else if holdsP x = true then (if (pop k es).headD n < (k : Int) + 1 + x.2.2.2.2 then false else nestG n (l.drop (k + 1)) ((k + 1 : Nat) : Int) (((k : Int) + 1 + x.2.2.2.2) :: pop k es)) else nestG n (l.drop (k + 1)) ((k + 1 : Nat) : Int) (pop k es)) := by
  obtain ⟨hk, he⟩ := List.getElem?_eq_some_iff.1 h
  rw [List.drop_eq_getElem_cons hk, he, nestG]
  rfl
def lenP : Value → Nat
  | .slice _ n _ => n
  | _ => 0
theorem pop_nil (k : Int) : pop k [] = [] := rfl
set_option maxRecDepth 100000 in
set_option maxHeartbeats 4000000 in
theorem nested_any (l : List OpP) (a : Option Addr) (c : Nat) (w : World) (hl : l.length ≤ 64) (hrd : Rd w 5 a l.length c (opsV l)) (hr : ∀ x ∈ l, holdsP x = true → 0 ≤ x.2.2.2.2 ∧ x.2.2.2.2 ≤ 64) :
    Calls Tryd.prog 21 #[.slice a l.length c] w fun e V => e = .returned (.bool (nestedP l)) ∧ Below w.heap.size w V := by
  obtain ⟨i0, hi, hz0, hz1, hz2⟩ := info_parts infoI
  have HR := Lib.hid hrd
  have HN := Lib.hid hr
  clear hrd hr
  go_enter Tryd.func21, Tryd.ntmps21
  go_wp2
  go_loopw [3, 10] (fun v i wr => ∃ (k : Nat) (es : List Int) (a' : Option Addr) (c' : Nat), k ≤ l.length ∧ i = .int .i64 k ∧ v = .slice a' es.length c' ∧ es.length ≤ 9 ∧ Hid (Ends w wr a' c' es ∧ nestG l.length (l.drop k) k es = nestedP l)) (fun _ i _ => l.length - (intP i).toNat)
  case atStart => exact ⟨0, [], none, 0, by omega, rfl, rfl, by simp, Lib.hid ⟨Loc.start 1 w w (Below.refl _ _), rfl⟩⟩
  case round =>
    obtain ⟨k, es, a', c', hk, rfl, rfl, he9, HE⟩ := hrel
    obtain ⟨wo, rfl⟩ : ∃ wo : World, wo = wr := ⟨_, rfl⟩
    by_cases hlt : k < l.length
    · obtain ⟨x, hx⟩ : ∃ x, l[k]? = some x := ⟨_, List.getElem?_eq_getElem hlt⟩
      have hHx := Lib.hid hx
      obtain ⟨b, o, rfl, hc⟩ := op_at (HR.out.later (Loc.low HE.out.1)) hx
      have c0 := hc 0 _ (by omega) rfl
      have c1 := hc 1 _ (by omega) rfl
      have c2 := hc 2 _ (by omega) rfl
      have c3 := hc 3 _ (by omega) rfl
      have c4 := hc 4 _ (by omega) rfl
      rw [Nat.add_zero] at c0
      have k0 : (0 : Int) ≤ (k : Int) := by omega
      have k1 : (k : Int) < (l.length : Int) := by omega
      clear hc hx
      go_upto_region 5 with (fail)
      apply wp_lift
      intro V hV
      have hbV : Below wo.heap.size wo V := by rw [hV]; exact al1 _ _
      have hop : OpAt V wo.heap.size x := by rw [hV]; exact OpAt.box wo x 28
      have HV := Lib.hid (And.intro (HE.out.1.later hbV) (And.intro hop hbV))
      have hsV : V.heap.size = wo.heap.size + 1 := by rw [hV]; simp
      clear hV hop hbV c0 c1 c2 c3 c4
      have kb : (k : Int) ≤ 63 := by omega
      go_loopw [3] (fun v W => ∃ es' : List Int, V = W ∧ v = .slice a' es'.length c' ∧ es'.length ≤ es.length ∧ Hid (Ends w V a' c' es' ∧ pop k es' = pop k es)) (fun v _ => lenP v)
      case atStart => exact ⟨es, rfl, rfl, Nat.le_refl _, Lib.hid ⟨HV.out.1, rfl⟩⟩
      case round =>
        obtain ⟨es', rfl, rfl, hle, HE'⟩ := hrel
        cases es' with
        | nil =>
          have HP : Hid (pop k es = []) := Lib.hid (by rw [← HE'.out.2]; rfl)
          have d0 : V.cell? ⟨wo.heap.size, 0, none⟩ = some (.int .i64 x.1) := HV.out.2.1 0 _ (by omega) rfl
          have d1 : V.cell? ⟨wo.heap.size, 1, none⟩ = some (.int .i64 x.2.1) := HV.out.2.1 1 _ (by omega) rfl
          have d2 : V.cell? ⟨wo.heap.size, 2, none⟩ = some (.int .i64 x.2.2.1) := HV.out.2.1 2 _ (by omega) rfl
          have d3 : V.cell? ⟨wo.heap.size, 3, none⟩ = some (.int .i64 x.2.2.2.1) := HV.out.2.1 3 _ (by omega) rfl
          have d4 : V.cell? ⟨wo.heap.size, 4, none⟩ = some (.int .i64 x.2.2.2.2) := HV.out.2.1 4 _ (by omega) rfl
          by_cases hh : holdsP x = true
          · have HH := Lib.hid hh
            have hN := HN.out x (List.mem_of_getElem? hHx.out) hh
            have hN1 := hN.1
            have hN2 := hN.2
            clear hN hh
            by_cases hend : (l.length : Int) < (k : Int) + 1 + x.2.2.2.2
            · go_wp2_with (go_at_call 33; refine (holds_any x _).mono ?_; rintro _ W ⟨rfl, hbW⟩; rw [HH.out]; have d4' : W.cell? ⟨wo.heap.size, 4, none⟩ = some (.int .i64 x.2.2.2.2) := ((hbW.cell (p := ⟨wo.heap.size, 4, none⟩) (by show wo.heap.size < V.heap.size; omega)).trans d4); have HW := Lib.hid hbW; clear hbW d0 d1 d2 d3 d4)
              go_ret
              have hs := nest_step hHx.out l.length es
              rw [HP.out, if_neg (by decide), if_pos HH.out, if_pos (by simpa using hend), HE.out.2] at hs
              exact ⟨by rw [hs]; rfl, (Loc.low HE'.out.1).trans (HW.out.mono (by have := (Loc.low HE'.out.1).size; omega))⟩
            · go_wp2_with (first | (go_at_call 33; refine (holds_any x _).mono ?_; rintro _ W ⟨rfl, hbW⟩; rw [HH.out]; have d4' : W.cell? ⟨wo.heap.size, 4, none⟩ = some (.int .i64 x.2.2.2.2) := ((hbW.cell (p := ⟨wo.heap.size, 4, none⟩) (by show wo.heap.size < V.heap.size; omega)).trans d4); have HW := Lib.hid hbW; clear hbW d0 d1 d2 d3 d4) | (at_builtin; refine wpList_app_loc rfl (.tmp 58) (.tmp 60) 76 rfl 3 i0 (.int .i64 0) 1 8 Tryd.underlying76 hi hz0 hz1 hz2 rfl (by decide) w a' 0 c' (nsV ([] : List Int).reverse) rfl ((HE'.out.1.later HW.out).later (al1 W _)) (some ⟨W.heap.size, 0, none⟩) 1 1 [.int .i64 ((k : Int) + 1 + x.2.2.2.2)] rfl (Rd.oneNew W (.int .i64 ((k : Int) + 1 + x.2.2.2.2)) 3 rfl) (0 + 1) (nsV (((k : Int) + 1 + x.2.2.2.2) :: []).reverse) rfl (ends_push _ _) (by unfold maxLen; omega) (by omega) ?_; intro a2 c2 w2 HL2; have HA := Lib.hid HL2; clear HL2))
              go_roundw
              case rel =>
                refine ⟨k + 1, ((k : Int) + 1 + x.2.2.2.2) :: [], a2, c2, by omega, by go_num, rfl, by simp only [List.length_cons, List.length_nil]; omega, Lib.hid ⟨HA.out, ?_⟩⟩
                have hs := nest_step hHx.out l.length es
                rw [HP.out, if_neg (by decide), if_pos HH.out, if_neg (by simpa using hend), HE.out.2] at hs
                exact hs.symm
              case measure => simp [intP]; omega
          · have hh' : holdsP x = false := by simpa using hh
            have HH := Lib.hid hh'
            clear hh hh'
            go_wp2_with (go_at_call 33; refine (holds_any x _).mono ?_; rintro _ W ⟨rfl, hbW⟩; rw [HH.out]; have d4' : W.cell? ⟨wo.heap.size, 4, none⟩ = some (.int .i64 x.2.2.2.2) := ((hbW.cell (p := ⟨wo.heap.size, 4, none⟩) (by show wo.heap.size < V.heap.size; omega)).trans d4); have HW := Lib.hid hbW; clear hbW d0 d1 d2 d3 d4)
            go_roundw
            case rel =>
              refine ⟨k + 1, [], a', c', by omega, by go_num, rfl, by simp only [List.length_cons, List.length_nil]; omega, Lib.hid ⟨HE'.out.1.later HW.out, ?_⟩⟩
              have hs := nest_step hHx.out l.length es
              rw [HP.out, if_neg (by decide), if_neg (by rw [HH.out]; simp), HE.out.2] at hs
              exact hs.symm
            case measure => simp [intP]; omega
        | cons e t =>
          obtain ⟨b2, o2, rfl, he⟩ := HE'.out.1.at_
          have t0 : (0 : Int) ≤ (t.length : Int) := by omega
          have t1 : t.length ≤ 9 := by simp only [List.length_cons] at hle; omega
          have hcc : t.length ≤ c' := by have := (Loc.rd HE'.out.1).le; simp only [List.length_cons] at this; omega
          by_cases hek : e ≤ (k : Int)
          · go_wp2
            go_roundw
            case rel => exact ⟨t, by first | trivial | rfl, rfl, by simp only [List.length_cons] at hle; omega, Lib.hid ⟨HE'.out.1.pop, by rw [← HE'.out.2]; conv => rhs; rw [pop, if_pos hek]⟩⟩
            case measure => simp [lenP]
          · have hek' : (k : Int) < e := by omega
            have HP : Hid (pop k es = (e :: t)) := Lib.hid (by rw [← HE'.out.2, pop, if_neg hek])
            have HL8 : Hid (((e :: t) : List Int).length = t.length + 1) := Lib.hid (by simp)
            by_cases h8 : 8 < t.length + 1
            · go_wp2
              go_ret
              have hs := nest_step hHx.out l.length es
              rw [HP.out, if_pos (by simpa using h8), HE.out.2] at hs
              exact ⟨by rw [hs]; rfl, (Loc.low HE'.out.1)⟩
            · have h8' : t.length + 1 ≤ 8 := by omega
              have d0 : V.cell? ⟨wo.heap.size, 0, none⟩ = some (.int .i64 x.1) := HV.out.2.1 0 _ (by omega) rfl
              have d1 : V.cell? ⟨wo.heap.size, 1, none⟩ = some (.int .i64 x.2.1) := HV.out.2.1 1 _ (by omega) rfl
              have d2 : V.cell? ⟨wo.heap.size, 2, none⟩ = some (.int .i64 x.2.2.1) := HV.out.2.1 2 _ (by omega) rfl
              have d3 : V.cell? ⟨wo.heap.size, 3, none⟩ = some (.int .i64 x.2.2.2.1) := HV.out.2.1 3 _ (by omega) rfl
              have d4 : V.cell? ⟨wo.heap.size, 4, none⟩ = some (.int .i64 x.2.2.2.2) := HV.out.2.1 4 _ (by omega) rfl
              by_cases hh : holdsP x = true
              · have HH := Lib.hid hh
                have hN := HN.out x (List.mem_of_getElem? hHx.out) hh
                have hN1 := hN.1
                have hN2 := hN.2
                clear hN hh
                by_cases hend : e < (k : Int) + 1 + x.2.2.2.2
                · go_wp2_with (go_at_call 33; refine (holds_any x _).mono ?_; rintro _ W ⟨rfl, hbW⟩; rw [HH.out]; have d4' : W.cell? ⟨wo.heap.size, 4, none⟩ = some (.int .i64 x.2.2.2.2) := ((hbW.cell (p := ⟨wo.heap.size, 4, none⟩) (by show wo.heap.size < V.heap.size; omega)).trans d4); have HW := Lib.hid hbW; have he' : W.cell? ⟨b2, o2 + t.length, none⟩ = some (.int .i64 e) := old_cellP he hbW; clear hbW d0 d1 d2 d3 d4 he)
                  go_ret
                  have hs := nest_step hHx.out l.length es
                  rw [HP.out, if_neg (by simp only [List.length_cons]; omega), if_pos HH.out, if_pos (by simpa using hend), HE.out.2] at hs
                  exact ⟨by rw [hs]; rfl, (Loc.low HE'.out.1).trans (HW.out.mono (by have := (Loc.low HE'.out.1).size; omega))⟩
                · go_wp2_with (first | (go_at_call 33; refine (holds_any x _).mono ?_; rintro _ W ⟨rfl, hbW⟩; rw [HH.out]; have d4' : W.cell? ⟨wo.heap.size, 4, none⟩ = some (.int .i64 x.2.2.2.2) := ((hbW.cell (p := ⟨wo.heap.size, 4, none⟩) (by show wo.heap.size < V.heap.size; omega)).trans d4); have HW := Lib.hid hbW; have he' : W.cell? ⟨b2, o2 + t.length, none⟩ = some (.int .i64 e) := old_cellP he hbW; clear hbW d0 d1 d2 d3 d4 he) | (at_builtin; refine wpList_app_loc rfl (.tmp 58) (.tmp 60) 76 rfl 3 i0 (.int .i64 0) 1 8 Tryd.underlying76 hi hz0 hz1 hz2 rfl (by decide) w (some ⟨b2, o2, none⟩) (t.length + 1) c' (nsV ((e :: t) : List Int).reverse) rfl ((HE'.out.1.later HW.out).later (al1 W _)) (some ⟨W.heap.size, 0, none⟩) 1 1 [.int .i64 ((k : Int) + 1 + x.2.2.2.2)] rfl (Rd.oneNew W (.int .i64 ((k : Int) + 1 + x.2.2.2.2)) 3 rfl) ((t.length + 1) + 1) (nsV (((k : Int) + 1 + x.2.2.2.2) :: (e :: t)).reverse) rfl (ends_push _ _) (by unfold maxLen; omega) (by omega) ?_; intro a2 c2 w2 HL2; have HA := Lib.hid HL2; clear HL2))
                  go_roundw
                  case rel =>
                    refine ⟨k + 1, ((k : Int) + 1 + x.2.2.2.2) :: (e :: t), a2, c2, by omega, by go_num, rfl, by simp only [List.length_cons, List.length_nil]; omega, Lib.hid ⟨HA.out, ?_⟩⟩
                    have hs := nest_step hHx.out l.length es
                    rw [HP.out, if_neg (by simp only [List.length_cons]; omega), if_pos HH.out, if_neg (by simpa using hend), HE.out.2] at hs
                    exact hs.symm
                  case measure => simp [intP]; omega
              · have hh' : holdsP x = false := by simpa using hh
                have HH := Lib.hid hh'
                clear hh hh'
                go_wp2_with (go_at_call 33; refine (holds_any x _).mono ?_; rintro _ W ⟨rfl, hbW⟩; rw [HH.out]; have d4' : W.cell? ⟨wo.heap.size, 4, none⟩ = some (.int .i64 x.2.2.2.2) := ((hbW.cell (p := ⟨wo.heap.size, 4, none⟩) (by show wo.heap.size < V.heap.size; omega)).trans d4); have HW := Lib.hid hbW; have he' : W.cell? ⟨b2, o2 + t.length, none⟩ = some (.int .i64 e) := old_cellP he hbW; clear hbW d0 d1 d2 d3 d4 he)
                go_roundw
                case rel =>
                  refine ⟨k + 1, (e :: t), (some ⟨b2, o2, none⟩), c', by omega, by go_num, rfl, by simp only [List.length_cons, List.length_nil]; omega, Lib.hid ⟨HE'.out.1.later HW.out, ?_⟩⟩
                  have hs := nest_step hHx.out l.length es
                  rw [HP.out, if_neg (by simp only [List.length_cons]; omega), if_neg (by rw [HH.out]; simp), HE.out.2] at hs
                  exact hs.symm
                case measure => simp [intP]; omega
    · obtain rfl : k = l.length := by omega
      go_wp2
      go_ret
      have h1 := HE.out.2
      rw [List.drop_length, nestG] at h1
      exact ⟨by rw [← h1]; rfl, Loc.low HE.out.1⟩
end Pc
end Go.Proofs.YtgoegdlhbadlfaaDoor
