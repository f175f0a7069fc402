/- Appending a text's bytes to an owned slice. Over any program. -/
import Derived.Test.YtapjdcofnigjhaaMem
import Derived.Deep.AppendSrc
namespace Go.Proofs.Ytapjdcofnigjhaa
open Go.RowKit

theorem byteCells_list (s : List UInt8) : byteCells ⟨s.toArray⟩ = bytesV s := rfl
theorem run_app_str {P : Program} {w : World} (t tx ty e : TypeId) (i : TypeInfo) (ht : P.underlying t = some (.slice e)) (hx : P.underlying tx = some .string) (hi : P.info? e = some i) (hz : i.zero = some (.int .u8 0))
    (hsize : i.size = 1) (hby : i.bytes = 1)
    {F : Foot} (a : Option Addr) (n c : Nat) (xs : List Value) (hown : Sl w 1 F a n c xs) (hlie : Lies w F) (s : List UInt8)
    (h63 : n + s.length ≤ maxLen) (hbytes : n + s.length ≤ 140737488355328) :
    ∃ a' c' w' F', (Builtin.append_ #[t, tx] ty #[.slice a n c, .string ⟨s.toArray⟩]).run P w = .ok (.slice a' (n + s.length) c') w' ∧ Sl w' 1 F' a' (n + s.length) c' (xs ++ bytesV s) ∧ Fr F w w' ∧ Grew w F F' ∧ Lies w' F' := by
  have hsz : (⟨s.toArray⟩ : ByteArray).size = s.length := by show s.toArray.size = _; simp
  have hone : ∀ u ∈ xs ++ bytesV s, u.oneCell' = true := fun u hu => by
    rcases List.mem_append.1 hu with h | h
    · exact hown.one u h
    · exact bytesV_one s u h
  have hsrc : ∀ w : World, Src P i.size tx (.string ⟨s.toArray⟩) s.length (bytesV s) w := fun w => by
    have := Src.ofString (P := P) w hx ⟨s.toArray⟩
    rwa [hsz, byteCells_list, ← hsize] at this
  have hol : xs.length = n * 1 := hown.len
  have hnl : (bytesV s).length = s.length := bytesV_length s
  have hle := hown.le
  by_cases hroom : n + s.length ≤ c
  · cases a with
    | none =>
      have hc0 := hown.nil rfl
      subst hc0
      have hn0 : n = 0 := by omega
      have hs0 : s = [] := List.eq_nil_of_length_eq_zero (by omega)
      subst hn0 hs0
      refine ⟨none, 0, w, F, ?_, by simpa [bytesV] using hown, Fr.refl _ _, Grew.refl _ _, hlie⟩
      simp [Builtin.append_, run_underlying ht, run_underlying hx, sizeOf, typeInfo, hi, Builtin.lenOf, Builtin.firstCells]
      rfl
    | some x =>
      by_cases hs0 : s = []
      · subst hs0
        refine ⟨some x, c, w, F, ?_, by simpa [bytesV] using hown, Fr.refl _ _, Grew.refl _ _, hlie⟩
        have hs1 : (⟨([] : List UInt8).toArray⟩ : ByteArray).size = 0 := rfl
        have hs2 : ((⟨([] : List UInt8).toArray⟩ : ByteArray).extract 0 0).data = #[] := rfl
        simp [Builtin.append_, run_underlying ht, run_underlying hx, sizeOf, typeInfo, hi, Builtin.lenOf, Builtin.firstCells, hle, storeCells, hs1, hs2]
      · have hsl : 0 < s.length := List.length_pos_iff.2 hs0
        obtain ⟨b, o, rfl, h1, h2, h3⟩ := hown.at_ x rfl (by omega)
        have hr := run_append_room_src (P := P) w t tx ty e i ht hi b o n c (.string ⟨s.toArray⟩) s.length (bytesV s) (hsrc w) hroom (fun j hj => by
          rw [hsize, Nat.add_assoc]; exact (h3 (n * 1 + j) (by omega)).1) (fun j hj => by
          rw [hsize, Nat.add_assoc]; exact (h3 (n * 1 + j) (by omega)).2)
        rw [hsize] at hr
        have hfr : Fr F w (w.setCells b (o + n * 1) (bytesV s)) := (Fr.setCells w b (o + n * 1) (bytesV s)).mono fun b2 o2 hr2 => by
          obtain ⟨e2, h4, h5⟩ := hr2
          subst e2
          have := h1 (o2 - o) (by omega)
          rwa [show o + (o2 - o) = o2 by omega] at this
        refine ⟨_, _, _, F, hr, ⟨by rw [List.length_append, hol, hnl]; omega, hroom, hown.cap, (fun h => by cases h), hone, fun x hx h0 => ?_⟩, hfr, Grew.refl _ _, hlie.later hfr⟩
        cases hx
        refine ⟨b, o, rfl, h1, fun j u hu => ?_, fun j hj => ⟨World.isSome_setCells b (bytesV s) _ w _ (h3 j hj).1, by rw [World.frozen?_setCells]; exact (h3 j hj).2⟩⟩
        have hj := (List.getElem?_eq_some_iff.1 hu).1
        rw [List.length_append, hol, hnl] at hj
        by_cases hjn : j < n * 1
        · rw [List.getElem?_append_left (by rw [hol]; exact hjn)] at hu
          rw [World.cell?_setCells_out b (bytesV s) (o + n * 1) w ⟨b, o + j, none⟩ (fun _ _ => .inl (by show o + j < o + n * 1; omega))]
          exact h2 j u hu
        · rw [List.getElem?_append_right (by rw [hol]; omega), hol] at hu
          obtain ⟨hj2, hu2⟩ := List.getElem?_eq_some_iff.1 hu
          have := World.cell?_setCells_in b (bytesV s) (o + n * 1) w (fun j hj => by rw [Nat.add_assoc]; exact (h3 (n * 1 + j) (by omega)).1) (j - n * 1) hj2
          rw [show o + n * 1 + (j - n * 1) = o + j by omega] at this
          rw [this, ← hu2]
  · have hold : (Builtin.firstCells i.size n (.slice a n c)).run P w.drew = .ok xs.toArray w.drew := by
      cases a with
      | none =>
        have hc0 := hown.nil rfl
        have hx0 : xs = [] := List.eq_nil_of_length_eq_zero (by omega)
        rw [hx0]
        exact run_firstCells_none w.drew i.size n n c
      | some x =>
        refine run_firstCells_some w.drew i.size n x n c xs (by rw [hsize]; exact hol) fun j u hj => ?_
        have := hown.rd.cell x rfl j u hj
        simpa using this
    have hg : c < n + s.length := by omega
    have hr := run_append_grow_src (P := P) w t tx ty e i (.int .u8 0) ht hi hz a n c xs hold (.string ⟨s.toArray⟩) s.length (bytesV s) (hsrc w) hg (by unfold maxLen at h63; omega) (growslice_fits hg (by rw [hby]; omega))
    have hown2 : (w.drew.alloc (.cells ((xs ++ bytesV s).toArray ++ Builtin.zeroCells (Value.int .u8 0).cells (grownCap w (n + s.length) c e - (n + s.length))) e)).ownsRow w.heap.size e 1 (.slice (some ⟨w.heap.size, 0, none⟩) (n + s.length) (grownCap w (n + s.length) c e)) (n + s.length) (xs ++ bytesV s) := by
      have hge := grownCap_ge w (n + s.length) c e
      have hcm : grownCap w (n + s.length) c e ≤ maxLen := grownCap_le_maxLen w (n + s.length) c e h63
      refine ⟨by rw [List.length_append, hol, hnl]; omega, .inr ⟨w.heap.size, _, _, rfl, Nat.le_refl _, heap_alloc_new w.drew _, hge, hcm, ?_, ?_⟩⟩
      · simp only [Array.size_append, List.size_toArray, List.length_append, size_zeroCells, hol, hnl]
        show n * 1 + s.length + (grownCap w (n + s.length) c e - (n + s.length)) * 1 = _
        omega
      · simp only [Array.toList_append, List.append_assoc]
        rw [← List.append_assoc]
        have : (n + s.length) * 1 = (xs ++ bytesV s).length := by rw [List.length_append, hol, hnl]; omega
        rw [this]
        exact List.take_left
    have hgb : w.grownBy (w.drew.alloc (.cells ((xs ++ bytesV s).toArray ++ Builtin.zeroCells (Value.int .u8 0).cells (grownCap w (n + s.length) c e - (n + s.length))) e)) none := ⟨rfl, rfl, rfl, by simp, fun k hk _ => heap_alloc_old w.drew _ hk⟩
    obtain ⟨a', c', e2, hsl⟩ := Sl.ofOwn hown2 hone
    cases e2
    exact ⟨_, _, _, _, hr, hsl, (Fr.grown hgb).mono (fun _ _ h => by cases h), fun b o h => .inr h.1, fun b o h => h.2⟩
/-- .. in the walk's form. -/
theorem wpList_app_str {P : Program} {w : World} {ops : Array Oper} {rest : List Oper} {o : Oper} {a : Act} {Q : Exit → Act → World → Prop} (hgd : o.guard = none) (sl x : Operand) (t tx : TypeId)
    (ho : o.op = .call { callee := .builtin .append, args := #[sl, x], argTypes := #[t, tx] })
    (e : TypeId) (i : TypeInfo) (ht : P.underlying t = some (.slice e)) (hx : P.underlying tx = some .string) (hi : P.info? e = some i) (hz : i.zero = some (.int .u8 0)) (hsize : i.size = 1) (hby : i.bytes = 1)
    (F : Foot) (a1 : Option Addr) (c : Nat) (bs : List UInt8) (hs : a.eval sl = .slice a1 bs.length c) (hown : Sl w 1 F a1 bs.length c (bytesV bs)) (hlie : Lies w F)
    (s : List UInt8) (hxv : a.eval x = .string ⟨s.toArray⟩) (hb : bs.length + s.length < 1000000000)
    (h : ∀ a' c' w' F', Sl w' 1 F' a' (bs.length + s.length) c' (bytesV (bs ++ s)) → Fr F w w' → Grew w F F' → Lies w' F' → wpList P ops Q rest (a.put o.dst (.slice a' (bs.length + s.length) c')) w') : wpList P ops Q (o :: rest) a w := by
  refine wpList_plain hgd fun K hK => ?_
  obtain ⟨a', c', w', F', hrun, h2, h3, h4, h5⟩ := run_app_str (P := P) t tx o.type e i ht hx hi hz hsize hby a1 bs.length c (bytesV bs) hown hlie s (by unfold maxLen; omega) (by omega)
  unfold Oper.wp
  simp [execOp, ho, resolve, invoke, builtin, hs, hxv, hrun, Result.andThen]
  exact hK _ _ (h _ _ _ _ (by rw [bytesV_append]; exact h2) h3 h4 h5)
end Go.Proofs.Ytapjdcofnigjhaa
