/- Storing an element of an owned slice. Over any program. -/
import Derived.Test.YtgoegdlhbadlfaaDoorMem
import Derived.Deep.MidRow
namespace Go.Proofs.YtgoegdlhbadlfaaDoor
open Go.RowKit

theorem Sl.put {w : World} {size : Nat} {F : Foot} {b o n c : Nat} {xs : List Value} (h : Sl w size F (some ⟨b, o, none⟩) n c xs) (hs : 0 < size) (i : Nat) (hi : i < n) (cs : List Value) (hcs : cs.length = size) (h1 : ∀ u ∈ cs, u.oneCell' = true)
    (ys : List Value) (hy : ys = xs.take (i * size) ++ cs ++ xs.drop ((i + 1) * size)) :
    w.there b (o + i * size) size ∧ Sl (w.setCells b (o + i * size) cs) size F (some ⟨b, o, none⟩) n c ys ∧ Fr F w (w.setCells b (o + i * size) cs) := by
  have hlen := h.len
  have hle := h.le
  have him : i * size + size ≤ n * size := by
    have := Nat.mul_le_mul_right size (show i + 1 ≤ n by omega)
    rw [Nat.add_mul, Nat.one_mul] at this
    exact this
  have hnc : n * size ≤ c * size := Nat.mul_le_mul_right size hle
  obtain ⟨b', o', e, g1, g2, g3⟩ := h.at_ _ rfl (by omega)
  cases e
  have hth : w.there b (o + i * size) size := fun j hj => by
    have := g3 (i * size + j) (by omega)
    rw [← Nat.add_assoc] at this
    exact this
  have hfr : Fr F w (w.setCells b (o + i * size) cs) := (Fr.setCells w b (o + i * size) cs).mono fun b2 o2 hr => by
    obtain ⟨e, h2, h3⟩ := hr
    subst e
    rw [hcs] at h3
    have := g1 (o2 - o) (by omega)
    rw [show o + (o2 - o) = o2 by omega] at this
    exact this
  have hyl : ys.length = n * size := by
    rw [hy, List.length_append, List.length_append, List.length_take, List.length_drop, hcs, hlen, Nat.add_mul, Nat.one_mul]
    omega
  refine ⟨hth, ⟨hyl, h.le, h.cap, h.nil, fun u hu => ?_, fun x hx h0 => ?_⟩, hfr⟩
  · rw [hy] at hu
    rcases List.mem_append.1 hu with hu | hu
    · rcases List.mem_append.1 hu with hu | hu
      · exact h.one u (List.mem_of_mem_take hu)
      · exact h1 u hu
    · exact h.one u (List.mem_of_mem_drop hu)
  · cases hx
    refine ⟨b, o, rfl, g1, fun j u hu => ?_, fun j hj => ?_⟩
    · rw [hy] at hu
      by_cases ha : j < i * size
      · rw [List.append_assoc, List.getElem?_append_left (by rw [List.length_take]; omega), List.getElem?_take_of_lt ha] at hu
        rw [World.cell?_setCells_out b cs (o + i * size) w ⟨b, o + j, none⟩ (fun _ _ => by left; show o + j < _; omega)]
        exact g2 j u hu
      · by_cases hb : j < i * size + size
        · rw [List.append_assoc, List.getElem?_append_right (by rw [List.length_take]; omega), List.getElem?_append_left (by rw [List.length_take]; omega), List.length_take, Nat.min_eq_left (by omega)] at hu
          have := World.rangeAt_setCells_same w b (o + i * size) cs (by rw [hcs]; exact hth) (j - i * size) u hu
          rw [show o + i * size + (j - i * size) = o + j by omega] at this
          exact this
        · rw [List.getElem?_append_right (by rw [List.length_append, List.length_take]; omega), List.length_append, List.length_take, Nat.min_eq_left (by omega), List.getElem?_drop, hcs, Nat.add_mul, Nat.one_mul, show i * size + size + (j - (i * size + size)) = j by omega] at hu
          rw [World.cell?_setCells_out b cs (o + i * size) w ⟨b, o + j, none⟩ (fun _ _ => by right; show o + i * size + cs.length ≤ o + j; omega)]
          exact g2 j u hu
    · obtain ⟨k1, k2⟩ := g3 j hj
      refine ⟨?_, by rw [World.frozen?_setCells]; exact k2⟩
      by_cases ha : i * size ≤ j ∧ j < i * size + size
      · have hu : cs[j - i * size]? = some (cs[j - i * size]'(by omega)) := List.getElem?_eq_getElem (by omega)
        have := World.rangeAt_setCells_same w b (o + i * size) cs (by rw [hcs]; exact hth) (j - i * size) _ hu
        rw [show o + i * size + (j - i * size) = o + j by omega] at this
        rw [this]; rfl
      · rw [World.cell?_setCells_out b cs (o + i * size) w ⟨b, o + j, none⟩ (fun _ _ => by
          by_cases hj1 : j < i * size
          · left; show o + j < _; omega
          · right; show o + i * size + cs.length ≤ o + j; omega)]
        exact k1
end Go.Proofs.YtgoegdlhbadlfaaDoor
