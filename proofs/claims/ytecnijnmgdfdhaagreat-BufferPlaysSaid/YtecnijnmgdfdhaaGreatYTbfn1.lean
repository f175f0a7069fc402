/- Joined: Tbfn1. -/
import Derived.Test.YtecnijnmgdfdhaaGreatYLawB
namespace Go.Proofs.YtecnijnmgdfdhaaGreat
namespace Tb
open Go.RowKit Tr
open Ky (less)
section
variable {L F : List Pr} {c : Nat} {lo hi : Int}
def entP (c : Nat) (p : Pr) : Pr := (ent c p, [])
def plF (c : Nat) (p : Pr) (F : List Pr) : Nat := pl (ent c p) (F.map (entP c))
def addF (c : Nat) (p : Pr) (F : List Pr) : List Pr := F.take (plF c p F) ++ p :: F.drop (plF c p F)
def okV (c : Nat) (lo hi : Int) (p : Pr) : Bool := decide (lo ≤ col (decT p.2) c ∧ col (decT p.2) c ≤ hi)
def findF (c : Nat) (lo hi : Int) (L : List Pr) : List Pr := (L.filter (okV c lo hi)).foldl (fun F p => addF c p F) []
theorem findF_snoc (L : List Pr) (p : Pr) : findF c lo hi (L ++ [p]) = if okV c lo hi p then addF c p (findF c lo hi L) else findF c lo hi L := by
 unfold findF
 rw [List.filter_append, List.foldl_append]
 cases h : okV c lo hi p with
 | true => rw [List.filter_cons_of_pos h]; rfl
 | false => rw [List.filter_cons_of_neg (by rw [h]; decide)]; rfl
theorem findF_succ {j : Nat} {p : Pr} (h : L[j]? = some p) : findF c lo hi (L.take (j + 1)) = if okV c lo hi p then addF c p (findF c lo hi (L.take j)) else findF c lo hi (L.take j) := by
 rw [List.take_add_one, h]
 exact findF_snoc _ _
theorem plF_le (p : Pr) (F : List Pr) : plF c p F ≤ F.length := by
 have := pl_le (ent c p) (F.map (entP c))
 rwa [List.length_map] at this
theorem addF_len (p : Pr) (F : List Pr) : (addF c p F).length = F.length + 1 := by
 have := plF_le (c := c) p F
 unfold addF
 rw [List.length_append, List.length_take, List.length_cons, List.length_drop]
 omega
theorem plF_lt {p q : Pr} {F : List Pr} {i : Nat} (h : i < plF c p F) (hq : F[i]? = some q) : less (ent c q) (ent c p) = true :=
 pl_lt (p := entP c q) h (by rw [List.getElem?_map, hq]; rfl)
theorem plF_at {p q : Pr} {F : List Pr} (hq : F[plF c p F]? = some q) : less (ent c q) (ent c p) = false :=
 pl_at (p := entP c q) (by rw [List.getElem?_map]; unfold plF at hq; rw [hq]; rfl)
theorem fold_all : ∀ (ys : List Pr), OkT ys.reverse → Sorted ys.reverse →
  (ys.reverse.foldl (fun F p => addF c p F) []).map (entP c) = insAll (ys.reverse.map (ent c)) ∧ ∀ p ∈ ys.reverse.foldl (fun F p => addF c p F) [], p ∈ ys.reverse := by
 intro ys
 induction ys with
 | nil => intro _ _; exact ⟨rfl, fun p h => by cases h⟩
 | cons p ys ih =>
  intro ok hs
  rw [List.reverse_cons] at ok hs ⊢
  obtain ⟨h1, h2⟩ := ih (fun q hq => ok q (List.mem_append_left _ hq)) hs.left
  rw [List.foldl_append, List.map_append, List.map_cons, List.map_nil, insAll_snoc]
  generalize ys.reverse.foldl (fun F p => addF c p F) [] = F at h1 h2 ⊢
  show (addF c p F).map (entP c) = _ ∧ ∀ q ∈ addF c p F, _
  have hg : get (ent c p) (insAll (ys.reverse.map (ent c))) = none := (get_no (insAll_all _).1).2 (fun q hq e => by
   have h3 := (((insAll_all _).2 q).1 hq).2
   obtain ⟨r, hr, e2⟩ := List.mem_map.1 h3
   have h4 := ent_inj ok (c := c) (List.mem_append_left _ hr) (List.mem_append_right _ (List.mem_singleton.2 rfl)) (e2.trans e)
   exact less_ne (hs.lt hr (List.mem_singleton.2 rfl)) h4)
  constructor
  ·rw [ins_place, if_pos hg, ← h1]
   unfold addF plF
   rw [List.map_append, List.map_cons, List.map_take, List.map_drop]
   rfl
  ·intro q hq
   unfold addF at hq
   rcases List.mem_append.1 hq with hq | hq
   ·exact List.mem_append_left _ (h2 q (List.mem_of_mem_take hq))
   ·rcases List.mem_cons.1 hq with rfl | hq
    ·exact List.mem_append_right _ (List.mem_singleton.2 rfl)
    ·exact List.mem_append_left _ (h2 q (List.mem_of_mem_drop hq))
theorem findF_sub (ok : OkT L) (hs : Sorted L) : ∀ p ∈ findF c lo hi L, p ∈ L := by
 have h := (fold_all (c := c) (L.filter (okV c lo hi)).reverse (by rw [List.reverse_reverse]; exact fun q hq => ok q ((List.mem_filter.1 hq).1)) (by rw [List.reverse_reverse]; exact hs.sublist List.filter_sublist)).2
 rw [List.reverse_reverse] at h
 exact fun p hp => (List.mem_filter.1 (h p hp)).1
theorem findF_keys (ok : OkT L) (hs : Sorted L) (h1 : Ky.In lo) (h2 : Ky.In hi) : (findF c lo hi L).map (fun p => p.1) = keysOf (hits c lo hi L) := by
 have h := (fold_all (c := c) (L.filter (okV c lo hi)).reverse (by rw [List.reverse_reverse]; exact fun q hq => ok q ((List.mem_filter.1 hq).1)) (by rw [List.reverse_reverse]; exact hs.sublist List.filter_sublist)).1
 rw [List.reverse_reverse] at h
 have he : insAll ((L.filter (okV c lo hi)).map (ent c)) = hits c lo hi L := by
  rw [hits_filter ok c h1 h2]
  refine sorted_ext (insAll_all _).1 ((idx_sorted c L).sublist List.filter_sublist) (fun q => ?_)
  rw [(insAll_all _).2, List.mem_filter, mem_idx]
  constructor
  ·rintro ⟨e1, e2⟩
   obtain ⟨p, hp, e3⟩ := List.mem_map.1 e2
   obtain ⟨hp, hv⟩ := List.mem_filter.1 hp
   obtain ⟨_, _, e4⟩ := idx_of ok hp (c := c)
   refine ⟨⟨e1, p, hp, e3⟩, ?_⟩
   rw [← e3, e4]
   exact hv
  ·rintro ⟨⟨e1, p, hp, e3⟩, hv⟩
   obtain ⟨_, _, e4⟩ := idx_of ok hp (c := c)
   rw [← e3, e4] at hv
   exact ⟨e1, List.mem_map.2 ⟨p, List.mem_filter.2 ⟨hp, hv⟩, e3⟩⟩
 rw [← he, ← h]
 unfold keysOf
 rw [List.map_map]
 refine List.map_congr_left (fun p hp => ?_)
 exact ((idx_of ok (findF_sub ok hs p hp) (c := c)).2.1).symm
end
end Tb
end Go.Proofs.YtecnijnmgdfdhaaGreat
