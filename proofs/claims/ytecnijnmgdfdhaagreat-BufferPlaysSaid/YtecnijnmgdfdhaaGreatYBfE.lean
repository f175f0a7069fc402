/- Joined: Bf11, Bf12. -/
import Derived.Test.YtecnijnmgdfdhaaGreatYBfD
namespace Go.Proofs.YtecnijnmgdfdhaaGreat
namespace Bf
open Go.RowKit Tr Tb
open Ky (less)
theorem len_sub {α : Type} [BEq α] [LawfulBEq α] : ∀ (a b : List α), a.Nodup → (∀ x ∈ a, x ∈ b) → a.length ≤ b.length
 | [], _, _, _ => Nat.zero_le _
 | x :: a, b, hn, hs => by
  have hx : x ∈ b := hs x (by simp)
  have h1 := List.nodup_cons.1 hn
  have := len_sub a (b.erase x) h1.2 (fun y hy => (List.mem_erase_of_ne (fun e => h1.1 (by rw [← e]; exact hy))).2 (hs y (by simp [hy])))
  rw [List.length_erase_of_mem hx] at this
  have := List.length_pos_of_mem hx
  simp only [List.length_cons]
  omega
def cut1 (L : List Pr) (p : Pr) : List Pr := match p.2 with
 | [] => delT p.1 L
 | _ :: _ => L
def lay1 (most : Nat) (L : List Pr) (p : Pr) : List Pr := match p.2 with
 | [] => L
 | _ :: s => putT p.1 (decT s) most L
def cutW (A L : List Pr) : List Pr := A.foldl cut1 L
def layW (most : Nat) (A L : List Pr) : List Pr := A.foldl (lay1 most) L
theorem take_snoc {α : Type} {l : List α} {j : Nat} {x : α} (h : l[j]? = some x) : l.take (j + 1) = l.take j ++ [x] := by
 rw [List.take_add_one, h]; rfl
theorem cut_step {W L : List Pr} {j : Nat} {p : Pr} (h : W[j]? = some p) : cutW (W.take (j + 1)) L = cut1 (cutW (W.take j) L) p := by
 unfold cutW
 rw [take_snoc h, List.foldl_append]; rfl
theorem lay_step {most : Nat} {W L : List Pr} {j : Nat} {p : Pr} (h : W[j]? = some p) : layW most (W.take (j + 1)) L = lay1 most (layW most (W.take j) L) p := by
 unfold layW
 rw [take_snoc h, List.foldl_append]; rfl
theorem cut_spec : ∀ (A : List Pr) {L : List Pr}, (∀ p ∈ A, Ks.okKey p.1 = true) → Sorted L → Sorted (cutW A L) ∧ ∀ k, get k (cutW A L) = if (k, []) ∈ A then none else get k L
 | [], L, _, hL => ⟨hL, fun k => by simp [cutW]⟩
 | p :: A, L, hk, hL => by
  have hp := hk p (by simp)
  obtain ⟨q, v⟩ := p
  cases v with
  | nil =>
   have e : cut1 L (q, []) = del q L := by show delT q L = _; unfold delT; rw [if_pos hp]
   obtain ⟨h1, h2⟩ := cut_spec A (L := del q L) (fun p hp => hk p (by simp [hp])) (hL.del q)
   have e2 : cutW ((q, []) :: A) L = cutW A (del q L) := by rw [← e]; rfl
   rw [e2]
   refine ⟨h1, fun k => ?_⟩
   rw [h2]
   by_cases ha : (k, []) ∈ A
   ·rw [if_pos ha, if_pos (by simp [ha])]
   ·rw [if_neg ha]
    by_cases ek : k = q
    ·subst ek; rw [if_pos (by simp)]; exact get_del_self hL k
    ·rw [if_neg (by simp [ha, ek]), get_del_other hL ek]
  | cons b s =>
   obtain ⟨h1, h2⟩ := cut_spec A (L := L) (fun p hp => hk p (by simp [hp])) hL
   have e2 : cutW ((q, b :: s) :: A) L = cutW A L := rfl
   rw [e2]
   refine ⟨h1, fun k => ?_⟩
   rw [h2]
   simp
theorem fit_len {T M : List Pr} {k s : Str} (hT : Sorted T) (hM : Sorted M) (hs : ∀ j, (get j M).isSome → (get j T).isSome) (hk : (get k T).isSome) : (ins (k, s) M).length ≤ T.length := by
 have h1 : ∀ L : List Pr, Sorted L → (L.map Prod.fst).Nodup := fun L h => by
  rw [List.nodup_iff_pairwise_ne, List.pairwise_map]
  exact h.imp (fun h e => by rw [e, Ky.less_self] at h; cases h)
 have := len_sub ((ins (k, s) M).map Prod.fst) (T.map Prod.fst) (h1 _ (hM.ins _)) (fun x hx => by
  obtain ⟨q, hq, rfl⟩ := List.mem_map.1 hx
  have hg := (mem_get (hM.ins _)).2 (show (q.1, q.2) ∈ ins (k, s) M from hq)
  have hgt : (get q.1 T).isSome := by
   by_cases e : q.1 = k
   ·rw [e]; exact hk
   ·rw [get_ins_other hM e] at hg
    exact hs _ (by rw [hg]; rfl)
  obtain ⟨v, hv⟩ := Option.isSome_iff_exists.1 hgt
  exact List.mem_map.2 ⟨(q.1, v), (mem_get hT).1 hv, rfl⟩)
 simpa using this
theorem lay_spec {most : Nat} {T : List Pr} (hT : Sorted T) (hm : T.length ≤ most) : ∀ (A : List Pr) {M : List Pr}, OkW A → Sorted A → Sorted M → (∀ j, (get j M).isSome → (get j T).isSome) → (∀ k b s, (k, b :: s) ∈ A → (get k T).isSome) →
  Sorted (layW most A M) ∧ ∀ k, get k (layW most A M) = (match get k A with | some (_ :: s) => some s | _ => get k M)
 | [], M, _, _, hM, _, _ => ⟨hM, fun k => rfl⟩
 | p :: A, M, hA, hS, hM, hs, hk => by
  have hSA := (List.pairwise_cons.1 hS).2
  obtain ⟨hok, r, hr, hv⟩ := hA p (by simp)
  have hgc : ∀ k, k ≠ p.1 → get k (p :: A) = get k A := fun k e => get_cons_other hS e
  have hgp : get p.1 (p :: A) = some p.2 := (mem_get hS).2 (by simp)
  have hga : get p.1 A = none := (get_no hSA).2 (fun q hq e => head_out hS hq e)
  obtain ⟨q, v⟩ := p
  cases v with
  | nil =>
   obtain ⟨h1, h2⟩ := lay_spec hT hm A (M := M) (fun p hp => hA p (by simp [hp])) hSA hM hs (fun k b s h => hk k b s (by simp [h]))
   have e2 : layW most ((q, []) :: A) M = layW most A M := rfl
   rw [e2]
   refine ⟨h1, fun k => ?_⟩
   rw [h2]
   by_cases ek : k = q
   ·subst ek; simp only [hgp, hga]
   ·rw [hgc k ek]
  | cons b s =>
   have hs' : encT (decT s) = s := by
    cases r with
    | none => cases hv
    | some r0 => cases hv; rw [decT_encT (hr r0 rfl)]
   have hkq := hk q b s (by simp)
   have hlen := fit_len (s := s) hT hM hs hkq
   have hE : putE q most M = 0 := by
    unfold putE
    rw [if_pos hok]
    rw [ins_len] at hlen
    cases hg : get q M with
    | none => simp [hg] at hlen ⊢; omega
    | some v => simp
   have e : lay1 most M (q, b :: s) = ins (q, s) M := by show putT q (decT s) most M = _; unfold putT; rw [if_pos hE, hs']
   have e2 : layW most ((q, b :: s) :: A) M = layW most A (ins (q, s) M) := by rw [← e]; rfl
   obtain ⟨h1, h2⟩ := lay_spec hT hm A (M := ins (q, s) M) (fun p hp => hA p (by simp [hp])) hSA (hM.ins _) (fun j hj => by
    by_cases ej : j = q
    ·rw [ej]; exact hkq
    ·rw [get_ins_other hM ej] at hj; exact hs j hj) (fun k b s h => hk k b s (by simp [h]))
   rw [e2]
   refine ⟨h1, fun k => ?_⟩
   rw [h2]
   by_cases ek : k = q
   ·subst ek; simp only [hgp, hga, get_ins]
   ·rw [hgc k ek, get_ins_other hM ek]
theorem apply_law {most : Nat} {W L : List Pr} (hW : OkW W) (hS : Sorted W) (hL : Sorted L) (hm : (overT W L).length ≤ most) : layW most W (cutW W L) = overT W L := by
 have hT := over_sorted W hL
 obtain ⟨c1, c2⟩ := cut_spec W (fun p hp => (hW p hp).1) hL
 have hnil : ∀ k, (k, []) ∈ W ↔ get k W = some [] := fun k => (mem_get hS).symm
 obtain ⟨l1, l2⟩ := lay_spec hT hm W hW hS c1 (fun j hj => by
  rw [c2] at hj
  rw [over_get hS hL]
  by_cases h : (j, []) ∈ W
  ·rw [if_pos h] at hj; cases hj
  ·rw [if_neg h] at hj
   rw [hnil] at h
   cases hg : get j W with
   | none => exact hj
   | some v =>
    cases v with
    | nil => exact absurd hg h
    | cons b s => rfl) (fun k b s h => by rw [over_get hS hL, (mem_get hS).2 h]; rfl)
 refine sorted_get_ext l1 hT (fun k => ?_)
 rw [l2, c2, over_get hS hL]
 cases hg : get k W with
 | none => rw [if_neg (by rw [hnil, hg]; simp)]
 | some v =>
  cases v with
  | nil => rw [if_pos ((hnil k).2 hg)]; rfl
  | cons b s => rfl
section
variable {B : Nat} {w0 w V : World} {X Y : List Rs} {bb tb mb rb most o n : Nat} {W L : List Pr} {a : Option Addr} {c : Nat}
theorem own_bufTb (h : Own B w0 Y w) (hm : BufR bb tb W ∈ Y) : w.cell? ⟨bb, 0, none⟩ = some (ptrV tb) := by
 obtain ⟨_, _, F, h1, _⟩ := h
 obtain ⟨F1, mb, pt, D, _, h2, _⟩ := sepF_mem h1 hm
 exact h2.1
end
end Bf
end Go.Proofs.YtecnijnmgdfdhaaGreat

namespace Go.Proofs.YtecnijnmgdfdhaaGreat
namespace Bf
open Go.RowKit Tr Tb
open Ky (less)
def WsQ (a : Option Addr) (c : Nat) (W : List Pr) (qs : List WQ) : Rs where
 R w F := qs.map Prod.fst = W ∧ Rd w 2 a W.length c (wsV qs) ∧ (∀ x, a = some x → wsV qs ≠ [] → ∀ o, F x.block o) ∧
  (∀ q ∈ qs, ∀ b s, q.1.2 = b :: s → (∀ o, F q.2 o) ∧ ∀ i, i < 4 → w.cell? ⟨q.2, i, none⟩ = some (.int .i64 (col (decT s) i))) ∧ Lies w F
 fr := fun {S F w w'} ⟨h1, h2, h3, h4, h5⟩ hf ha =>
  ⟨h1, rd_fr h2 hf (fun x hx hne o => ha _ _ (h3 x hx hne o)), h3, fun q hq b s e => ⟨(h4 q hq b s e).1, fun i hi => cell_fr hf ((h4 q hq b s e).2 i hi) (ha _ _ ((h4 q hq b s e).1 i))⟩, h5.later hf⟩
 lies := fun ⟨_, _, _, _, h5⟩ => h5
section
variable {B : Nat} {w0 w V : World} {X Y : List Rs} {A C R : Rs} {bb tb mb rb most o n : Nat} {W L : List Pr} {a : Option Addr} {c : Nat} {qs : List WQ}
theorem rot3 (h : Own B w0 (A :: C :: R :: X) w) : Own B w0 (R :: A :: C :: X) w := h.perm (((List.Perm.swap R C X).cons A).trans (List.Perm.swap R A (C :: X)))
theorem drop2 (h : Own B w0 (A :: C :: X) w) : Own B w0 (A :: X) w := h.swap.drop
theorem own_wsOpen (h : Own B w0 (WsR a c W :: X) w) : ∃ qs, qs.map Prod.fst = W ∧ Own B w0 (WsQ a c W qs :: X) w := by
 obtain ⟨hB, hb, F, ⟨F1, F2, e, ha, ⟨qs, h1, h2⟩, h3⟩, h4⟩ := h
 exact ⟨qs, h1, hB, hb, F, ⟨F1, F2, e, ha, ⟨h1, h2⟩, h3⟩, h4⟩
theorem own_qAt (h : Own B w0 Y w) (hm : WsQ a c W qs ∈ Y) {j : Nat} {k v : Str} (hj : W[j]? = some (k, v)) :
  ∃ b0 o0 p, a = some ⟨b0, o0, none⟩ ∧ w.cell? ⟨b0, o0 + j * 2, none⟩ = some (.string ⟨k.toArray⟩) ∧ w.cell? ⟨b0, o0 + j * 2 + 1, none⟩ = some (ptrO (elC (fun _ => p) k v)) ∧
   W.length ≤ c ∧ c ≤ maxLen ∧ qs[j]? = some ((k, v), p) := by
 obtain ⟨_, _, F, h1, _⟩ := h
 obtain ⟨F1, e, hr, _, hrow, _⟩ := sepF_mem h1 hm
 have hq : ∃ q, qs[j]? = some q ∧ q.1 = (k, v) := by
  rw [← e, List.getElem?_map] at hj
  cases hq : qs[j]? with
  | none => rw [hq] at hj; cases hj
  | some q => rw [hq] at hj; exact ⟨q, rfl, Option.some.inj hj⟩
 obtain ⟨⟨p0, p⟩, hq, rfl⟩ := hq
 obtain ⟨g0, g1⟩ := wsV_get hq
 obtain ⟨b0, o0, h2, h3⟩ := hr.addr (by intro h0; rw [h0] at g0; simp at g0)
 exact ⟨b0, o0, p, h2, h3 _ _ g0, h3 _ _ g1, hr.le, hr.cap, hq⟩
theorem own_qRow (h : Own B w0 Y w) (hm : WsQ a c W qs ∈ Y) {j p : Nat} {k : Str} {b : UInt8} {s : Str} (hq : qs[j]? = some ((k, b :: s), p)) : ∀ i, i < 4 → w.cell? ⟨p, i, none⟩ = some (.int .i64 (col (decT s) i)) := by
 obtain ⟨_, _, F, h1, _⟩ := h
 obtain ⟨F1, e, hr, _, hrow, _⟩ := sepF_mem h1 hm
 exact (hrow _ (List.mem_of_getElem? hq) b s rfl).2
theorem okW_in (hW : OkW W) {k : Str} {b : UInt8} {s : Str} (h : (k, b :: s) ∈ W) : In4 (decT s) := by
 obtain ⟨_, r, hr, hv⟩ := hW _ h
 cases r with
 | none => cases hv
 | some r0 => cases hv; rw [decT_encT (hr r0 rfl)]; exact hr r0 rfl
def apE (most : Nat) (W L : List Pr) : Int := if most < (overT W L).length then 16 else 0
def apW (most : Nat) (W L : List Pr) : List Pr := if most < (overT W L).length then W else []
def apL (most : Nat) (W L : List Pr) : List Pr := if most < (overT W L).length then L else overT W L
set_option maxHeartbeats 8000000 in
set_option maxRecDepth 100000 in
theorem own_bufApply (hW : W.length ≤ 100000) (h : Own B w0 (BufR bb tb W :: TabR tb most o L :: X) w) :
  Calls Tryz.prog 25 #[ptrV bb] w fun e V => e = .returned (.int .i64 (apE most W L)) ∧ Own B w0 (BufR bb tb (apW most W L) :: TabR tb most o (apL most W L) :: X) V := by
 have HO := Lib.hid h
 have HV1 : Hid (Below w.heap.size w w) := Lib.hid (Below.refl _ _)
 have HX : Hid (∀ V, Below w.heap.size w V → V.cell? ⟨bb, 0, none⟩ = some (ptrV tb) ∧ True) := Lib.hid (fun V hb => ⟨own_bufTb (W := W) (h.later hb) (by simp), trivial⟩)
 have HLb : Hid (∀ V, Below w.heap.size w V → Calls Tryz.prog 17 #[ptrV bb] V fun e V2 => e = .returned (.int .i64 ((overT W L).length : Nat)) ∧ Below V.heap.size V V2) := Lib.hid (fun V hb => own_bufLen hW (h.later hb))
 have HMo : Hid (∀ V, Below w.heap.size w V → Calls Tryz.prog 35 #[ptrV tb] V fun e V2 => e = .returned (.int .i64 most) ∧ V = V2) := Lib.hid (fun V hb => own_tabMost (h.drop.later hb))
 have HSo : Hid (∀ V, Below w.heap.size w V → Calls Tryz.prog 52 #[ptrV bb] V fun e V2 => ∃ a c, e = .returned (.slice a W.length c) ∧ Own B w0 (WsR a c W :: BufR bb tb W :: TabR tb most o L :: X) V2) := Lib.hid (fun V hb => own_sorted hW (h.later hb))
 have HOk := Lib.hid (own_bufOk h)
 have HL := Lib.hid (apply_law (own_bufOk h) (own_bufSorted h) (own_tabSorted h.swap) (most := most))
 have z0 := own_bufTb (bb := bb) (tb := tb) (W := W) h (by simp)
 obtain ⟨N, hN⟩ : ∃ N, W.length = N := ⟨_, rfl⟩
 have hN2 : (N : Int) ≤ 100000 := by omega
 have HN := Lib.hid hN
 rw [hN] at HSo
 obtain ⟨M, hMM⟩ : ∃ M, (overT W L).length = M := ⟨_, rfl⟩
 rw [hMM] at HLb HL
 have hE : apE most W L = if most < M then 16 else 0 := by rw [← hMM]; rfl
 have hE2 : apW most W L = if most < M then W else [] := by rw [← hMM]; rfl
 have hE3 : apL most W L = if most < M then L else overT W L := by rw [← hMM]; rfl
 rw [hE, hE2, hE3]
 clear h hMM hN hE hE2 hE3
 by_cases hfull : most < M
 ·have k1 : (most : Int) < (M : Int) := by omega
  rw [if_pos hfull, if_pos hfull, if_pos hfull]
  go_enter Tryz.func25, Tryz.ntmps25
  go_wp2
  refine wp_region_held_drew (S := (fun V => V.cell? ⟨bb, 0, none⟩ = some (ptrV tb))) (by kernel_rfl) z0 (fun hH0f => ?_)
  refine zzT (i := 0) (v := ?vf0) rfl (by kernel_rfl) (fun _ _ _ h => h) ?hf0 hH0f ?rf0
  case hf0 => (intro W h; (try dsimp only at h); go_simp; all_goals (with_reducible rfl))
  try simp only [zzA, zzB, zzC, Act.put, zzD, zzE, zzF]
  refine zzT (i := 2) (v := ?vf2) rfl (by kernel_rfl) (fun _ _ _ h => h) ?hf2 hH0f ?rf2
  case hf2 => (intro W h; (try dsimp only at h); go_simp; all_goals (with_reducible rfl))
  try simp only [zzA, zzB, zzC, Act.put, zzD, zzE, zzF]
  refine zzT (i := 3) (v := ?vf3) rfl (by kernel_rfl) (fun _ _ _ h => h) ?hf3 hH0f ?rf3
  case hf3 => (intro W h; (try dsimp only at h); go_simp; all_goals (with_reducible rfl))
  try simp only [zzA, zzB, zzC, Act.put, zzD, zzE, zzF]
  refine zzT (i := 4) (v := ?vf4) rfl (by kernel_rfl) (fun _ _ _ h => h) ?hf4 hH0f ?rf4
  case hf4 => (intro W h; (try dsimp only at h); go_simp; all_goals (with_reducible rfl))
  try simp only [zzA, zzB, zzC, Act.put, zzD, zzE, zzF]
  refine zzT (i := 5) (v := ?vf5) rfl (by kernel_rfl) (fun _ _ _ h => h) ?hf5 hH0f ?rf5
  case hf5 => (intro W h; (try dsimp only at h); go_simp; all_goals (with_reducible rfl))
  try simp only [zzA, zzB, zzC, Act.put, zzD, zzE, zzF]
  refine wpAnyH_ready (rs := [1]) (by kernel_rfl) (by simp) ?_
  refine AllReadyH.cons rfl (fun K hK => ?_) AllReadyH.nil
  simp only [zzA, zzB, zzC]
  go_simp
  (go_at_call 17; refine (HLb.out _ (HV1.out.drew)).mono ?_; rintro e V5 ⟨rfl, hb⟩)
  have H5 := Lib.hid ((HV1.out.drew).trans (hb.mono (HV1.out.drew).size))
  clear hb
  refine hK.out _ _ ((HX.out _ H5.out).1) (fun hH1f => ?_)
  clear hK K hH0f
  try simp only [zzA, zzB, zzC, Act.put, zzD, zzE, zzF]
  refine wpAnyH_ready (rs := [6]) (by kernel_rfl) (by simp) ?_
  refine AllReadyH.cons rfl (fun K hK => ?_) AllReadyH.nil
  simp only [zzA, zzB, zzC]
  go_simp
  (go_at_call 35; refine (HMo.out _ (H5.out)).mono ?_; rintro e V6 ⟨rfl, rfl⟩)
  refine hK.out _ _ ((HX.out _ H5.out).1) (fun hH2f => ?_)
  clear hK K hH1f
  try simp only [zzA, zzB, zzC, Act.put, zzD, zzE, zzF]
  refine zzT (i := 7) (v := ?vfz7) rfl (by kernel_rfl) (fun _ _ _ h => h) ?hfz7 hH2f ?rfz7
  case hfz7 => (intro W h; (try dsimp only at h); go_simp; all_goals (with_reducible rfl))
  try simp only [zzA, zzB, zzC, Act.put, zzD, zzE, zzF]
  refine wpAnyH_done (by kernel_rfl) ?_ _
  go_wp2
  go_ret
  exact ⟨rfl, HO.out.later H5.out⟩
 ·have k1 : ¬ (most : Int) < (M : Int) := by omega
  rw [if_neg hfull, if_neg hfull, if_neg hfull]
  have HAp := Lib.hid (HL.out (by omega))
  go_enter Tryz.func25, Tryz.ntmps25
  go_wp2
  refine wp_region_held_drew (S := (fun V => V.cell? ⟨bb, 0, none⟩ = some (ptrV tb))) (by kernel_rfl) z0 (fun hH0s => ?_)
  refine zzT (i := 0) (v := ?vs0) rfl (by kernel_rfl) (fun _ _ _ h => h) ?hs0 hH0s ?rs0
  case hs0 => (intro W h; (try dsimp only at h); go_simp; all_goals (with_reducible rfl))
  try simp only [zzA, zzB, zzC, Act.put, zzD, zzE, zzF]
  refine zzT (i := 2) (v := ?vs2) rfl (by kernel_rfl) (fun _ _ _ h => h) ?hs2 hH0s ?rs2
  case hs2 => (intro W h; (try dsimp only at h); go_simp; all_goals (with_reducible rfl))
  try simp only [zzA, zzB, zzC, Act.put, zzD, zzE, zzF]
  refine zzT (i := 3) (v := ?vs3) rfl (by kernel_rfl) (fun _ _ _ h => h) ?hs3 hH0s ?rs3
  case hs3 => (intro W h; (try dsimp only at h); go_simp; all_goals (with_reducible rfl))
  try simp only [zzA, zzB, zzC, Act.put, zzD, zzE, zzF]
  refine zzT (i := 4) (v := ?vs4) rfl (by kernel_rfl) (fun _ _ _ h => h) ?hs4 hH0s ?rs4
  case hs4 => (intro W h; (try dsimp only at h); go_simp; all_goals (with_reducible rfl))
  try simp only [zzA, zzB, zzC, Act.put, zzD, zzE, zzF]
  refine zzT (i := 5) (v := ?vs5) rfl (by kernel_rfl) (fun _ _ _ h => h) ?hs5 hH0s ?rs5
  case hs5 => (intro W h; (try dsimp only at h); go_simp; all_goals (with_reducible rfl))
  try simp only [zzA, zzB, zzC, Act.put, zzD, zzE, zzF]
  refine wpAnyH_ready (rs := [1]) (by kernel_rfl) (by simp) ?_
  refine AllReadyH.cons rfl (fun K hK => ?_) AllReadyH.nil
  simp only [zzA, zzB, zzC]
  go_simp
  (go_at_call 17; refine (HLb.out _ (HV1.out.drew)).mono ?_; rintro e V5 ⟨rfl, hb⟩)
  have H5 := Lib.hid ((HV1.out.drew).trans (hb.mono (HV1.out.drew).size))
  clear hb
  refine hK.out _ _ ((HX.out _ H5.out).1) (fun hH1s => ?_)
  clear hK K hH0s
  try simp only [zzA, zzB, zzC, Act.put, zzD, zzE, zzF]
  refine wpAnyH_ready (rs := [6]) (by kernel_rfl) (by simp) ?_
  refine AllReadyH.cons rfl (fun K hK => ?_) AllReadyH.nil
  simp only [zzA, zzB, zzC]
  go_simp
  (go_at_call 35; refine (HMo.out _ (H5.out)).mono ?_; rintro e V6 ⟨rfl, rfl⟩)
  refine hK.out _ _ ((HX.out _ H5.out).1) (fun hH2s => ?_)
  clear hK K hH1s
  try simp only [zzA, zzB, zzC, Act.put, zzD, zzE, zzF]
  refine zzT (i := 7) (v := ?vsz7) rfl (by kernel_rfl) (fun _ _ _ h => h) ?hsz7 hH2s ?rsz7
  case hsz7 => (intro W h; (try dsimp only at h); go_simp; all_goals (with_reducible rfl))
  try simp only [zzA, zzB, zzC, Act.put, zzD, zzE, zzF]
  refine wpAnyH_done (by kernel_rfl) ?_ _
  go_wp2_with (go_at_call 52; refine (HSo.out _ H5.out).mono ?_; rintro e V7 ⟨a, c, rfl, hs7⟩; obtain ⟨qs, hqs, hs7⟩ := own_wsOpen hs7; have HS7 := Lib.hid (rot3 hs7); clear hs7 hqs)
  go_loopw [22] (fun i wr => ∃ (j : Nat), j ≤ N ∧ i = .int .i64 j ∧ Hid (Own B w0 (TabR tb most o (cutW (W.take j) L) :: WsQ a c W qs :: BufR bb tb W :: X) wr)) (fun i _ => N - (intOf i).toNat)
  case atStart => exact ⟨0, Nat.zero_le _, rfl, Lib.hid (by rw [List.take_zero]; exact HS7.out)⟩
  case round =>
   obtain ⟨j, hj, rfl, HJ⟩ := hrel
   by_cases hlt : j < N
   ·have hlt1 : (j : Int) < (N : Int) := by omega
    obtain ⟨⟨k, v⟩, hp⟩ : ∃ p, W[j]? = some p := ⟨_, List.getElem?_eq_getElem (by rw [HN.out]; exact hlt)⟩
    obtain ⟨b0, o0, p, rfl, c0, c1, hle, hcap, hrow⟩ := own_qAt (a := a) (c := c) (qs := qs) HJ.out (by simp) hp
    have HST := Lib.hid (cut_step (L := L) hp)
    have hNc : (N : Int) ≤ (c : Int) := by have := HN.out; omega
    have hNc2 : N ≤ c := by have := HN.out; omega
    have hc63 : c ≤ 9223372036854775807 := by unfold maxLen at hcap; omega
    cases v with
    | nil =>
     simp only [elC, ptrO, Option.map_none] at c1
     obtain ⟨W1, hW1⟩ : ∃ W1, wr.alloc (.cells #[.string ⟨k.toArray⟩, .pointer none] 106) = W1 := ⟨_, rfl⟩
     have HB1 : Hid (Below wr.heap.size wr W1) := Lib.hid (by rw [← hW1]; exact al1 wr _)
     have q0 : W1.cell? ⟨wr.heap.size, 0, none⟩ = some (.string ⟨k.toArray⟩) := by rw [← hW1]; simp
     have q1 : W1.cell? ⟨wr.heap.size, 1, none⟩ = some (.pointer none) := by rw [← hW1]; simp
     have q2 : W1.frozen? ⟨wr.heap.size, 0, none⟩ = false := by rw [← hW1]; simp
     have q3 : W1.frozen? ⟨wr.heap.size, 1, none⟩ = false := by rw [← hW1]; simp
     have q4 : W1.setCell ⟨wr.heap.size, 1, none⟩ (.pointer none) = W1 := by
      rw [Go.Sort.setCell_eq]
      refine Go.Sort.mapBlock_id _ _ _ (fun cs e fr hc => ?_)
      rw [← hW1, World.alloc_heap_new] at hc
      cases hc; rfl
     have HA : Hid (Own B w0 (TabR tb most o (cutW (W.take j) L) :: CellsR wr.heap.size [.string ⟨k.toArray⟩, .pointer none] :: WsQ (some ⟨b0, o0, none⟩) c W qs :: BufR bb tb W :: X) W1) := Lib.hid (by rw [← hW1]; exact (own_cells HJ.out #[.string ⟨k.toArray⟩, .pointer none] 106).swap)
     have HX : Hid (∀ (T : List Pr) (V : World), Own B w0 (TabR tb most o T :: CellsR wr.heap.size [.string ⟨k.toArray⟩, .pointer none] :: WsQ (some ⟨b0, o0, none⟩) c W qs :: BufR bb tb W :: X) V → V.cell? ⟨bb, 0, none⟩ = some (ptrV tb) ∧ V.cell? ⟨wr.heap.size, 0, none⟩ = some (.string ⟨k.toArray⟩)) := Lib.hid (fun T V hv => ⟨own_bufTb (W := W) hv (by simp), (own_cellM hv (i := 0) (vs := [.string ⟨k.toArray⟩, .pointer none]) (by simp) rfl).1⟩)
     have HD := Lib.hid (own_tabDel k (HA.out.later ((Below.refl _ _).drew)))
     obtain ⟨z0, z1⟩ := HX.out _ _ HA.out
     clear hp hrow hle hcap
     go_wp2
     refine wp_region_held_drew (S := (fun V => V.cell? ⟨bb, 0, none⟩ = some (ptrV tb) ∧ V.cell? ⟨wr.heap.size, 0, none⟩ = some (.string ⟨k.toArray⟩))) (by kernel_rfl) ⟨z0, z1⟩ (fun hH0 => ?_)
     refine zzT (i := 0) (v := ?vcut0) rfl (by kernel_rfl) (fun _ _ _ h => h) ?hcut0 hH0 ?rcut0
     case hcut0 => (intro W h; (try dsimp only at h); go_simp; all_goals (with_reducible rfl))
     try simp only [zzA, zzB, zzC, Act.put, zzD, zzE, zzF]
     refine zzT (i := 1) (v := ?vcut1) rfl (by kernel_rfl) (fun _ _ _ h => h) ?hcut1 hH0 ?rcut1
     case hcut1 => (intro W h; (try dsimp only at h); go_simp; all_goals (with_reducible rfl))
     try simp only [zzA, zzB, zzC, Act.put, zzD, zzE, zzF]
     refine zzT (i := 2) (v := ?vcut2) rfl (by kernel_rfl) (fun _ _ _ h => h) ?hcut2 hH0 ?rcut2
     case hcut2 => (intro W h; (try dsimp only at h); go_simp; all_goals (with_reducible rfl))
     try simp only [zzA, zzB, zzC, Act.put, zzD, zzE, zzF]
     refine zzT (i := 3) (v := ?vcut3) rfl (by kernel_rfl) (fun _ _ _ h => h) ?hcut3 hH0 ?rcut3
     case hcut3 => (intro W h; (try dsimp only at h); go_simp; all_goals (with_reducible rfl))
     try simp only [zzA, zzB, zzC, Act.put, zzD, zzE, zzF]
     refine zzT (i := 4) (v := ?vcut4) rfl (by kernel_rfl) (fun _ _ _ h => h) ?hcut4 hH0 ?rcut4
     case hcut4 => (intro W h; (try dsimp only at h); go_simp; all_goals (with_reducible rfl))
     try simp only [zzA, zzB, zzC, Act.put, zzD, zzE, zzF]
     refine zzT (i := 5) (v := ?vcut5) rfl (by kernel_rfl) (fun _ _ _ h => h) ?hcut5 hH0 ?rcut5
     case hcut5 => (intro W h; (try dsimp only at h); go_simp; all_goals (with_reducible rfl))
     try simp only [zzA, zzB, zzC, Act.put, zzD, zzE, zzF]
     refine wpAnyH_ready (rs := [6]) (by kernel_rfl) (by simp) ?_
     refine AllReadyH.cons rfl (fun K hK => ?_) AllReadyH.nil
     simp only [zzA, zzB, zzC]
     go_simp
     (go_at_call 43; refine HD.out.mono ?_; rintro e V2 ⟨rfl, h2⟩; have H2 := Lib.hid h2; clear h2)
     refine hK.out _ _ (HX.out _ _ H2.out) (fun hH1 => ?_)
     clear hK K hH0
     try simp only [zzA, zzB, zzC, Act.put, zzD, zzE, zzF]
     refine wpAnyH_done (by kernel_rfl) ?_ _
     go_wp2
     go_roundw
     case rel => exact ⟨j + 1, by omega, by go_num, Lib.hid (by rw [HST.out]; exact drop2 H2.out)⟩
     case measure => simp [intOf]; omega
    | cons b s =>
     simp only [elC, ptrO, Option.map_some] at c1
     obtain ⟨W1, hW1⟩ : ∃ W1, wr.alloc (.cells #[.string ⟨k.toArray⟩, ptrV p] 106) = W1 := ⟨_, rfl⟩
     have HB1 : Hid (Below wr.heap.size wr W1) := Lib.hid (by rw [← hW1]; exact al1 wr _)
     have q0 : W1.cell? ⟨wr.heap.size, 0, none⟩ = some (.string ⟨k.toArray⟩) := by rw [← hW1]; simp
     have q1 : W1.cell? ⟨wr.heap.size, 1, none⟩ = some (ptrV p) := by rw [← hW1]; simp
     have q2 : W1.frozen? ⟨wr.heap.size, 0, none⟩ = false := by rw [← hW1]; simp
     have q3 : W1.frozen? ⟨wr.heap.size, 1, none⟩ = false := by rw [← hW1]; simp
     clear hp hrow hle hcap
     go_wp2
     go_roundw
     case rel => exact ⟨j + 1, by omega, by go_num, Lib.hid (by rw [HST.out]; exact HJ.out.later HB1.out)⟩
     case measure => simp [intOf]; omega
   ·obtain rfl : N = j := by omega
    have hlt1 : ¬ (N : Int) < (N : Int) := by omega
    have HL1 : Hid (Own B w0 (TabR tb most o (cutW W L) :: WsQ a c W qs :: BufR bb tb W :: X) wr) := Lib.hid (by have := HJ.out; rwa [List.take_of_length_le (by rw [HN.out]; exact Nat.le_refl _)] at this)
    clear HJ hj hlt hlt1
    go_wp2
    go_loopw [39] (fun i wr => ∃ (j : Nat), j ≤ N ∧ i = .int .i64 j ∧ Hid (Own B w0 (TabR tb most o (layW most (W.take j) (cutW W L)) :: WsQ a c W qs :: BufR bb tb W :: X) wr)) (fun i _ => N - (intOf i).toNat)
    case atStart => exact ⟨0, Nat.zero_le _, rfl, Lib.hid (by rw [List.take_zero]; exact HL1.out)⟩
    case round =>
     obtain ⟨j, hj, rfl, HJ⟩ := hrel
     by_cases hlt : j < N
     ·have hlt1 : (j : Int) < (N : Int) := by omega
      obtain ⟨⟨k, v⟩, hp⟩ : ∃ p, W[j]? = some p := ⟨_, List.getElem?_eq_getElem (by rw [HN.out]; exact hlt)⟩
      obtain ⟨b0, o0, p, rfl, c0, c1, hle, hcap, hrow⟩ := own_qAt (a := a) (c := c) (qs := qs) HJ.out (by simp) hp
      have HST := Lib.hid (lay_step (most := most) (L := cutW W L) hp)
      have hNc : (N : Int) ≤ (c : Int) := by have := HN.out; omega
      have hNc2 : N ≤ c := by have := HN.out; omega
      have hc63 : c ≤ 9223372036854775807 := by unfold maxLen at hcap; omega
      cases v with
      | nil =>
       simp only [elC, ptrO, Option.map_none] at c1
       obtain ⟨W1, hW1⟩ : ∃ W1, wr.alloc (.cells #[.string ⟨k.toArray⟩, .pointer none] 106) = W1 := ⟨_, rfl⟩
       have HB1 : Hid (Below wr.heap.size wr W1) := Lib.hid (by rw [← hW1]; exact al1 wr _)
       have q0 : W1.cell? ⟨wr.heap.size, 0, none⟩ = some (.string ⟨k.toArray⟩) := by rw [← hW1]; simp
       have q1 : W1.cell? ⟨wr.heap.size, 1, none⟩ = some (.pointer none) := by rw [← hW1]; simp
       have q2 : W1.frozen? ⟨wr.heap.size, 0, none⟩ = false := by rw [← hW1]; simp
       have q3 : W1.frozen? ⟨wr.heap.size, 1, none⟩ = false := by rw [← hW1]; simp
       have q4 : W1.setCell ⟨wr.heap.size, 1, none⟩ (.pointer none) = W1 := by
        rw [Go.Sort.setCell_eq]
        refine Go.Sort.mapBlock_id _ _ _ (fun cs e fr hc => ?_)
        rw [← hW1, World.alloc_heap_new] at hc
        cases hc; rfl
       clear hp hrow hle hcap
       go_wp2
       go_roundw
       case rel => exact ⟨j + 1, by omega, by go_num, Lib.hid (by rw [HST.out]; exact HJ.out.later HB1.out)⟩
       case measure => simp [intOf]; omega
      | cons b s =>
       simp only [elC, ptrO, Option.map_some] at c1
       obtain ⟨W1, hW1⟩ : ∃ W1, wr.alloc (.cells #[.string ⟨k.toArray⟩, ptrV p] 106) = W1 := ⟨_, rfl⟩
       have HB1 : Hid (Below wr.heap.size wr W1) := Lib.hid (by rw [← hW1]; exact al1 wr _)
       have q0 : W1.cell? ⟨wr.heap.size, 0, none⟩ = some (.string ⟨k.toArray⟩) := by rw [← hW1]; simp
       have q1 : W1.cell? ⟨wr.heap.size, 1, none⟩ = some (ptrV p) := by rw [← hW1]; simp
       have q2 : W1.frozen? ⟨wr.heap.size, 0, none⟩ = false := by rw [← hW1]; simp
       have q3 : W1.frozen? ⟨wr.heap.size, 1, none⟩ = false := by rw [← hW1]; simp
       have HA : Hid (Own B w0 (TabR tb most o (layW most (W.take j) (cutW W L)) :: CellsR wr.heap.size [.string ⟨k.toArray⟩, ptrV p] :: WsQ (some ⟨b0, o0, none⟩) c W qs :: BufR bb tb W :: X) W1) := Lib.hid (by rw [← hW1]; exact (own_cells HJ.out #[.string ⟨k.toArray⟩, ptrV p] 106).swap)
       obtain ⟨r, hr⟩ : ∃ r, decT s = r := ⟨_, rfl⟩
       obtain ⟨r0, r1, r2, r3⟩ := r
       have hin : In4 (r0, r1, r2, r3) := by rw [← hr]; exact okW_in HOk.out (List.mem_of_getElem? hp)
       have HRw : Hid (∀ (Y : List Rs) (V : World), Own B w0 Y V → WsQ (some ⟨b0, o0, none⟩) c W qs ∈ Y → ∀ i, i < 4 → V.cell? ⟨p, i, none⟩ = some (.int .i64 (col (r0, r1, r2, r3) i))) := Lib.hid (fun Y V hv hm i hi => by rw [← hr]; exact own_qRow hv hm hrow i hi)
       have HX : Hid (∀ (T : List Pr) (V : World), Own B w0 (TabR tb most o T :: CellsR wr.heap.size [.string ⟨k.toArray⟩, ptrV p] :: WsQ (some ⟨b0, o0, none⟩) c W qs :: BufR bb tb W :: X) V → V.cell? ⟨bb, 0, none⟩ = some (ptrV tb) ∧ V.cell? ⟨wr.heap.size, 0, none⟩ = some (.string ⟨k.toArray⟩) ∧ V.cell? ⟨wr.heap.size, 1, none⟩ = some (ptrV p) ∧ V.cell? ⟨p, 0, none⟩ = some (.int .i64 r0) ∧ V.cell? ⟨p, 1, none⟩ = some (.int .i64 r1) ∧ V.cell? ⟨p, 2, none⟩ = some (.int .i64 r2) ∧ V.cell? ⟨p, 3, none⟩ = some (.int .i64 r3)) := Lib.hid (fun T V hv => ⟨own_bufTb (W := W) hv (by simp), (own_cellM hv (i := 0) (vs := [.string ⟨k.toArray⟩, ptrV p]) (by simp) rfl).1, (own_cellM hv (i := 1) (vs := [.string ⟨k.toArray⟩, ptrV p]) (by simp) rfl).1, HRw.out _ V hv (by simp) 0 (by omega), HRw.out _ V hv (by simp) 1 (by omega), HRw.out _ V hv (by simp) 2 (by omega), HRw.out _ V hv (by simp) 3 (by omega)⟩)
       have HD : Hid (Calls Tryz.prog 42 #[ptrV tb, .string ⟨k.toArray⟩, .agg #[.int .i64 r0, .int .i64 r1, .int .i64 r2, .int .i64 r3]] W1.drew fun e V => e = .returned (.tuple #[rowW (getR k (layW most (W.take j) (cutW W L))), .bool (putB k (layW most (W.take j) (cutW W L))), .int .i64 (putE k most (layW most (W.take j) (cutW W L)))]) ∧ Own B w0 (TabR tb most o (putT k (r0, r1, r2, r3) most (layW most (W.take j) (cutW W L))) :: CellsR wr.heap.size [.string ⟨k.toArray⟩, ptrV p] :: WsQ (some ⟨b0, o0, none⟩) c W qs :: BufR bb tb W :: X) V) := Lib.hid (own_tabPut k (r0, r1, r2, r3) hin (HA.out.later ((Below.refl _ _).drew)))
       have HST2 : Hid (lay1 most (layW most (W.take j) (cutW W L)) (k, b :: s) = putT k (r0, r1, r2, r3) most (layW most (W.take j) (cutW W L))) := Lib.hid (by rw [← hr]; rfl)
       obtain ⟨z0, z1, z2, z3, z4, z5, z6⟩ := HX.out _ _ HA.out
       clear hp hrow hle hcap hr hin
       go_wp2
       refine wp_region_held_drew (S := (fun V => V.cell? ⟨bb, 0, none⟩ = some (ptrV tb) ∧ V.cell? ⟨wr.heap.size, 0, none⟩ = some (.string ⟨k.toArray⟩) ∧ V.cell? ⟨wr.heap.size, 1, none⟩ = some (ptrV p) ∧ V.cell? ⟨p, 0, none⟩ = some (.int .i64 r0) ∧ V.cell? ⟨p, 1, none⟩ = some (.int .i64 r1) ∧ V.cell? ⟨p, 2, none⟩ = some (.int .i64 r2) ∧ V.cell? ⟨p, 3, none⟩ = some (.int .i64 r3))) (by kernel_rfl) ⟨z0, z1, z2, z3, z4, z5, z6⟩ (fun hH0 => ?_)
       refine zzT (i := 0) (v := ?vlay0) rfl (by kernel_rfl) (fun _ _ _ h => h) ?hlay0 hH0 ?rlay0
       case hlay0 => (intro W h; (try dsimp only at h); go_simp; all_goals (with_reducible rfl))
       try simp only [zzA, zzB, zzC, Act.put, zzD, zzE, zzF]
       refine zzT (i := 1) (v := ?vlay1) rfl (by kernel_rfl) (fun _ _ _ h => h) ?hlay1 hH0 ?rlay1
       case hlay1 => (intro W h; (try dsimp only at h); go_simp; all_goals (with_reducible rfl))
       try simp only [zzA, zzB, zzC, Act.put, zzD, zzE, zzF]
       refine zzT (i := 2) (v := ?vlay2) rfl (by kernel_rfl) (fun _ _ _ h => h) ?hlay2 hH0 ?rlay2
       case hlay2 => (intro W h; (try dsimp only at h); go_simp; all_goals (with_reducible rfl))
       try simp only [zzA, zzB, zzC, Act.put, zzD, zzE, zzF]
       refine zzT (i := 3) (v := ?vlay3) rfl (by kernel_rfl) (fun _ _ _ h => h) ?hlay3 hH0 ?rlay3
       case hlay3 => (intro W h; (try dsimp only at h); go_simp; all_goals (with_reducible rfl))
       try simp only [zzA, zzB, zzC, Act.put, zzD, zzE, zzF]
       refine zzT (i := 4) (v := ?vlay4) rfl (by kernel_rfl) (fun _ _ _ h => h) ?hlay4 hH0 ?rlay4
       case hlay4 => (intro W h; (try dsimp only at h); go_simp; all_goals (with_reducible rfl))
       try simp only [zzA, zzB, zzC, Act.put, zzD, zzE, zzF]
       refine zzT (i := 5) (v := ?vlay5) rfl (by kernel_rfl) (fun _ _ _ h => h) ?hlay5 hH0 ?rlay5
       case hlay5 => (intro W h; (try dsimp only at h); go_simp; all_goals (with_reducible rfl))
       try simp only [zzA, zzB, zzC, Act.put, zzD, zzE, zzF]
       refine zzT (i := 6) (v := ?vlay6) rfl (by kernel_rfl) (fun _ _ _ h => h) ?hlay6 hH0 ?rlay6
       case hlay6 => (intro W h; (try dsimp only at h); go_simp; all_goals (with_reducible rfl))
       try simp only [zzA, zzB, zzC, Act.put, zzD, zzE, zzF]
       refine zzT (i := 7) (v := ?vlay7) rfl (by kernel_rfl) (fun _ _ _ h => h) ?hlay7 hH0 ?rlay7
       case hlay7 => (intro W h; (try dsimp only at h); go_simp; all_goals (with_reducible rfl))
       try simp only [zzA, zzB, zzC, Act.put, zzD, zzE, zzF]
       refine zzT (i := 8) (v := ?vlay8) rfl (by kernel_rfl) (fun _ _ _ h => h) ?hlay8 hH0 ?rlay8
       case hlay8 => (intro W h; (try dsimp only at h); go_simp; all_goals (with_reducible rfl))
       try simp only [zzA, zzB, zzC, Act.put, zzD, zzE, zzF]
       refine zzT (i := 9) (v := ?vlay9) rfl (by kernel_rfl) (fun _ _ _ h => h) ?hlay9 hH0 ?rlay9
       case hlay9 => (intro W h; (try dsimp only at h); go_simp; all_goals (with_reducible rfl))
       try simp only [zzA, zzB, zzC, Act.put, zzD, zzE, zzF]
       refine wpAnyH_ready (rs := [10]) (by kernel_rfl) (by simp) ?_
       refine AllReadyH.cons rfl (fun K hK => ?_) AllReadyH.nil
       simp only [zzA, zzB, zzC]
       go_simp
       (go_at_call 42; refine HD.out.mono ?_; rintro e V2 ⟨rfl, h2⟩; have H2 := Lib.hid h2; clear h2)
       refine hK.out _ _ (HX.out _ _ H2.out) (fun hH1 => ?_)
       clear hK K hH0
       try simp only [zzA, zzB, zzC, Act.put, zzD, zzE, zzF]
       refine wpAnyH_done (by kernel_rfl) ?_ _
       go_wp2
       go_roundw
       case rel => exact ⟨j + 1, by omega, by go_num, Lib.hid (by rw [HST.out, HST2.out]; exact drop2 H2.out)⟩
       case measure => simp [intOf]; omega
     ·obtain rfl : N = j := by omega
      have hlt1 : ¬ (N : Int) < (N : Int) := by omega
      have hfin := HJ.out
      rw [List.take_of_length_le (by rw [HN.out]; exact Nat.le_refl _), HAp.out] at hfin
      obtain ⟨mb, pt, D, hM, hA⟩ := own_bufOpen (rot3 hfin)
      obtain ⟨⟨y0, y1⟩, hown, _⟩ := own_bufAt hA
      have hcl := clear_run hown
      have HC : Hid (∀ ty, ∃ w', (Builtin.clear_ #[86] ty #[.map (some mb)]).run Tryz.prog wr = .ok (.tuple #[]) w' ∧ Own B w0 (BufR bb tb [] :: TabR tb most o (overT W L) :: X) w') := Lib.hid (fun ty => by
       obtain ⟨w', h1, h2, h3⟩ := hcl ty
       exact ⟨w', h1, (rot3 (own_bufClear hA h2 h3)).drop⟩)
      clear hM hA hown hcl hfin
      obtain ⟨w', hrun, hO⟩ := HC.out 0
      have HO2 := Lib.hid hO
      clear hO
      go_wp2
      go_ret
      exact ⟨rfl, HO2.out⟩
end
end Bf
end Go.Proofs.YtecnijnmgdfdhaaGreat
