/- Package sched: New, Pick; '==' of acts. -/
import Derived.Test.YtpfcghigfkhimaaSched7
import Derived.Deep.RegionHeld3
import Derived.Laws.StructEq
import Derived.Laws.ResultCell
namespace Go.Proofs.Ytpfcghigfkhimaa
open Go.RowKit

theorem Try.infoChan : (Try.prog.info? 62).map (fun i => (i.zero, i.size, i.bytes)) = some (some (.chan none), 1, 8) := by kernel_rfl
theorem mkchan (w : World) : (Instr.makeChan 62 (.int .i64 1)).run Try.prog w = .ok (.chan (some w.heap.size)) (w.alloc (.chan 1 #[] false 0 0 false)) := by
  obtain ⟨i, hi, _, _, hb⟩ := info_parts Try.infoInt
  simpa using Conc.run_makeChan (P := Try.prog) (w := w) Try.underlying62 hi .i64 1 (by omega) (by rw [hb]; omega)
/-- A board that is being made. -/
structure Part (w : World) (g sb n : Nat) (chs : List Nat) : Prop where
  ptr : w.cell? ⟨g, 0, none⟩ = some (.slice (some ⟨sb, 0, none⟩) n n)
  row : ∀ (i c : Nat), chs[i]? = some c → w.cell? ⟨sb, i, none⟩ = some (.chan (some c))
  rest : ∀ i, i < n → (w.cell? ⟨sb, i, none⟩).isSome = true ∧ w.frozen? ⟨sb, i, none⟩ = false
  slots : ∀ c ∈ chs, Slot w c none
  nodup : chs.Nodup
  gne : g ∉ chs
  sbne : sb ∉ chs
  gs : g ≠ sb
  sbl : sb < w.heap.size
theorem Part.more {w w1 : World} {g sb n : Nat} {chs : List Nat} (h : Part w g sb n chs) (hn : chs.length < n) (hb : Below w.heap.size w w1) (hz : w1.heap.size = w.heap.size) :
    Part ((w1.alloc (.chan 1 #[] false 0 0 false)).setCell ⟨sb, chs.length, none⟩ (.chan (some w1.heap.size))) g sb n (chs ++ [w.heap.size]) := by
  have hg := block_of_cell h.ptr
  simp only at hg
  have hsb := h.sbl
  have hal : Below w.heap.size w (w1.alloc (.chan 1 #[] false 0 0 false)) := hb.alloc (by omega) _
  have hold : ∀ b o, b < w.heap.size → (w1.alloc (.chan 1 #[] false 0 0 false)).cell? ⟨b, o, none⟩ = w.cell? ⟨b, o, none⟩ := fun b o hlt => hal.cell (p := ⟨b, o, none⟩) hlt
  have hfro : ∀ b o, b < w.heap.size → (w1.alloc (.chan 1 #[] false 0 0 false)).frozen? ⟨b, o, none⟩ = w.frozen? ⟨b, o, none⟩ := fun b o hlt => hal.frozen (p := ⟨b, o, none⟩) hlt
  have hlt : ∀ c ∈ chs, c < w.heap.size := fun c hc => (h.slots c hc).lt
  refine ⟨?_, fun i c hi => ?_, fun i hi => ?_, fun c hc => ?_, ?_, fun hm => ?_, fun hm => ?_, h.gs, by have := hal.size; simp at this ⊢; omega⟩
  · rw [World.cell?_setCell_other _ _ _ _ (by intro e; injection e with e1; exact h.gs e1.symm), hold g 0 hg]
    exact h.ptr
  · by_cases hic : i = chs.length
    · subst hic
      rw [List.getElem?_concat_length] at hi
      obtain rfl := Option.some.inj hi
      obtain ⟨u, hu⟩ := Option.isSome_iff_exists.1 (h.rest chs.length hn).1
      rw [World.cell?_setCell_same (u := u) _ _ _ ((hold sb _ hsb).trans hu), hz]
    · have hlti : i < chs.length := by
        have := (List.getElem?_eq_some_iff.1 hi).1
        rw [List.length_append, List.length_singleton] at this
        omega
      rw [List.getElem?_append_left hlti] at hi
      rw [World.cell?_setCell_other _ _ _ _ (by intro e; cases e; exact hic rfl), hold sb i hsb]
      exact h.row i c hi
  · obtain ⟨h1, h2⟩ := h.rest i hi
    refine ⟨?_, by simp only [World.frozen?_setCell]; rw [hfro sb i hsb]; exact h2⟩
    by_cases hic : i = chs.length
    · subst hic
      obtain ⟨u, hu⟩ := Option.isSome_iff_exists.1 h1
      rw [World.cell?_setCell_same (u := u) _ _ _ ((hold sb _ hsb).trans hu)]; rfl
    · rw [World.cell?_setCell_other _ _ _ _ (by intro e; cases e; exact hic rfl), hold sb i hsb]
      exact h1
  · have hset : ∀ k, k ≠ sb → ((w1.alloc (.chan 1 #[] false 0 0 false)).setCell ⟨sb, chs.length, none⟩ (.chan (some w1.heap.size))).heap[k]? = (w1.alloc (.chan 1 #[] false 0 0 false)).heap[k]? := fun k hk => Below.heap_setCell _ _ _ _ hk
    rcases List.mem_append.1 hc with hc | hc
    · obtain ⟨s, r, hs⟩ := h.slots c hc
      exact ⟨s, r, by rw [hset c (fun e => h.sbne (e ▸ hc)), hal.block c (hlt c hc)]; exact hs⟩
    · rw [List.mem_singleton] at hc
      subst hc
      refine ⟨0, 0, ?_⟩
      rw [hset _ (by omega), ← hz]
      exact heap_alloc_new _ _
  · rw [List.nodup_append]
    refine ⟨h.nodup, by simp, fun a ha b hb e => ?_⟩
    rw [List.mem_singleton] at hb
    subst hb
    subst e
    have := hlt _ ha
    omega
  · rcases List.mem_append.1 hm with hm | hm
    · exact h.gne hm
    · rw [List.mem_singleton] at hm; omega
  · rcases List.mem_append.1 hm with hm | hm
    · exact h.sbne hm
    · rw [List.mem_singleton] at hm; omega
theorem Part.board {w : World} {g sb n : Nat} {chs : List Nat} (h : Part w g sb n chs) (hl : chs.length = n) (h1 : 1 ≤ n) (h2 : n ≤ 16) : Brd w g sb chs (List.replicate n none) := by
  subst hl
  exact ⟨h.ptr, by simp, h.row, fun i c o hi ho => by
    have := List.getElem?_eq_some_iff.1 ho
    obtain ⟨hl, e⟩ := this
    rw [List.getElem_replicate] at e
    subst e
    exact h.slots c (List.mem_of_getElem? hi), h.nodup, h.gne, h.sbne, h2, h1⟩
theorem new_bad (v : Int) (h : v < 1 ∨ 16 < v) (w : World) : Calls Try.prog 8 #[.int .i64 v] w fun e w' => e = .returned (.tuple #[.pointer none, .int .i64 23]) ∧ w = w' := by
  by_cases h1 : v < 1
  · clear h
    go_enter Try.func8, Try.ntmps8
    go_wp2
    go_ret2
    exact ⟨rfl, rfl⟩
  · have h2 : 16 < v := by omega
    clear h
    go_enter Try.func8, Try.ntmps8
    go_wp2
    go_ret2
    exact ⟨rfl, rfl⟩
set_option maxHeartbeats 1000000 in
theorem new_any (n : Nat) (h1 : 1 ≤ n) (h2 : n ≤ 16) (w : World) :
    Calls Try.prog 8 #[.int .i64 (n : Int)] w fun e w' => ∃ g sb chs, e = .returned (.tuple #[.pointer (some ⟨g, 0, none⟩), .int .i64 0]) ∧ Brd w' g sb chs (List.replicate n none) ∧ Below w.heap.size w w' ∧ w.heap.size ≤ g ∧ w.heap.size ≤ sb ∧ ∀ c ∈ chs, w.heap.size ≤ c := by
  obtain ⟨i0, hi, hz0, hz1, hz2⟩ := info_parts Try.infoChan
  obtain ⟨M, hM⟩ : ∃ M, M = madeCells (Value.chan none).cells (((n : Nat) : Int).toNat * i0.size) := ⟨_, rfl⟩
  have hMs : M.size = n := by rw [hM, size_madeCells, hz1]; simp
  have hmk : ∀ W : World, (Instr.makeSlice 59 (.int .i64 (n : Int)) (.int .i64 (n : Int))).run Try.prog W = .ok (.slice (some ⟨W.heap.size, 0, none⟩) n n) (W.alloc (.cells M 62)) := fun W => by
    have h := run_make (P := Try.prog) W 59 62 i0 (.chan none) Try.underlying59 hi hz0 .i64 .i64 (n : Int) (n : Int) (by omega) (by omega) (by rw [hz2]; omega) (by omega)
    rw [← hM] at h
    simpa using h
  have hP : Part ((w.alloc (.cells M 62)).alloc (.cells #[.slice (some ⟨w.heap.size, 0, none⟩) n n] 61)) (w.heap.size + 1) w.heap.size n [] := by
    refine ⟨by simp, fun i c h => by simp at h, fun i hi => ⟨?_, ?_⟩, (fun _ h => by cases h), List.nodup_nil, by simp, by simp, by omega, by simp; omega⟩
    · rw [World.cell?_alloc_past _ _ _ (by simp), World.cell?_alloc_new, Array.getElem?_eq_getElem (by omega)]; rfl
    · rw [World.frozen?_alloc_past _ _ _ (by simp), World.frozen?_alloc_new]
  have hL : Below w.heap.size w ((w.alloc (.cells M 62)).alloc (.cells #[.slice (some ⟨w.heap.size, 0, none⟩) n n] 61)) := (al1 w _).trans ((al1 (w.alloc (.cells M 62)) _).mono (by simp))
  have HP := Lib.hid hP
  have HL := Lib.hid hL
  have hmc := mkchan
  clear hM hMs hP hL
  go_enter Try.func8, Try.ntmps8
  go_wp2
  generalize (w.alloc (.cells M 62)).alloc (.cells #[.slice (some ⟨w.heap.size, 0, none⟩) n n] 61) = W at *
  go_loopw [21] (fun t wr => ∃ (m : Nat) (chs : List Nat), m ≤ n ∧ t = .int .i64 m ∧ Hid (chs.length = m ∧ Part wr (w.heap.size + 1) w.heap.size n chs ∧ Below w.heap.size w wr ∧ ∀ c ∈ chs, w.heap.size ≤ c)) (fun t _ => n - (intOf t).toNat)
  case atStart => exact ⟨0, [], by omega, rfl, Lib.hid ⟨rfl, HP.out, HL.out, fun _ h => by cases h⟩⟩
  case round =>
    obtain ⟨m, chs, hm, rfl, HS⟩ := hrel
    by_cases hmt : m < n
    · have p1 := HS.out.2.1.ptr
      obtain ⟨r1, r2⟩ := HS.out.2.1.rest m hmt
      obtain ⟨u, hu⟩ := Option.isSome_iff_exists.1 r1
      have m0 : (0 : Int) ≤ (m : Int) := by omega
      have m1 : (m : Int) < (n : Int) := by omega
      have hsz := HS.out.2.1.sbl
      clear r1
      go_wp2
      go_region_held3 (fun W => W.cell? ⟨w.heap.size + 1, 0, none⟩ = some (.slice (some ⟨w.heap.size, 0, none⟩) n n))
        (first | exact p1 | go_keep)
        (first | fail)
      go_wp2
      have HQ := Lib.hid (HS.out.2.1.more (w1 := wr.drew) (by have := HS.out.1; omega) (Below.refl _ _).drew rfl)
      rw [HS.out.1] at HQ
      have HBW := Lib.hid ((HS.out.2.2.1.drew.alloc HS.out.2.2.1.size (.chan 1 #[] false 0 0 false)).setCell (p := ⟨w.heap.size, m, none⟩) (Nat.le_refl _) (.chan (some wr.heap.size)))
      have HE : Hid ((wr.drew.alloc (.chan 1 #[] false 0 0 false)).setCell ⟨w.heap.size, m, none⟩ (.chan (some wr.heap.size)) = ((wr.setCell ⟨w.heap.size, m, none⟩ (.chan (some wr.heap.size))).alloc (.chan 1 #[] false 0 0 false)).drew) := Lib.hid (by
        rw [World.setCell_alloc_past (hn := (show w.heap.size < wr.drew.heap.size from hsz))]; rfl)
      have HQ2 : Hid (Part (((wr.setCell ⟨w.heap.size, m, none⟩ (.chan (some wr.heap.size))).alloc (.chan 1 #[] false 0 0 false)).drew) (w.heap.size + 1) w.heap.size n (chs ++ [wr.heap.size])) := Lib.hid (by rw [← HE.out]; exact HQ.out)
      have HBW2 : Hid (Below w.heap.size w (((wr.setCell ⟨w.heap.size, m, none⟩ (.chan (some wr.heap.size))).alloc (.chan 1 #[] false 0 0 false)).drew)) := Lib.hid (by rw [← HE.out]; exact HBW.out)
      go_roundw
      case rel => exact ⟨m + 1, chs ++ [wr.heap.size], by omega, by go_num, Lib.hid ⟨by rw [List.length_append, HS.out.1]; rfl, HQ2.out, HBW2.out, fun c hc => by
        rcases List.mem_append.1 hc with hc | hc
        · exact HS.out.2.2.2 c hc
        · rw [List.mem_singleton] at hc; have := HS.out.2.2.1.size; omega⟩⟩
      case measure => simp [intOf]; omega
    · obtain rfl : m = n := by omega
      go_wp2
      go_ret2
      exact ⟨w.heap.size + 1, w.heap.size, chs, rfl, HS.out.2.1.board HS.out.1 h1 h2, HS.out.2.2.1, by omega, Nat.le_refl _, HS.out.2.2.2⟩

abbrev actV (k v i : Int) : Value := .agg #[.int .i64 k, .int .i64 v, .int .i64 i]
theorem eqAct (d : Nat) (k v i k' v' i' : Int) (w : World) : (Op.equalIn (d + 2) 35 (actV k v i) (actV k' v' i')).run Try.prog w = .ok (k == k' && (v == v' && i == i')) w := by
  have u3 := Try.underlying3
  have a3 := Try.isAgg3
  have z3 := Try.sizeOf3
  have hS : Try.prog.underlying 35 = some (.struct (Try.prog.fieldsOf 35)) := by kernel_rfl
  have hp : Try.prog.stoodInHeld 35 = false := by kernel_rfl
  rw [run_equalIn_agg w (d + 1) 35 _ _ hS hp]
  simp only [Program.fieldsOf, Try.underlying35]
  go_simp
  by_cases h1 : k = k' <;> by_cases h2 : v = v' <;> by_cases h3 : i = i' <;> simp [h1, h2, h3]
theorem guardAct : Try.prog.eqGuardType Try.prog.depth 35 = false := by kernel_rfl
theorem eqlAct (k v i k' v' i' : Int) (r : Bool) (h : (k == k' && (v == v' && i == i')) = r) (w : World) : (binOp .eql 35 (actV k v i) (actV k' v' i')).run Try.prog w = .ok (.bool r) w := by
  rw [run_eql_struct, eqAct, h]; rfl
theorem neqAct (k v i k' v' i' : Int) (r : Bool) (h : (k == k' && (v == v' && i == i')) = r) (w : World) : (binOp .neq 35 (actV k v i) (actV k' v' i')).run Try.prog w = .ok (.bool (!r)) w := by
  rw [run_neq_struct, eqAct, h]; rfl
/-- Where a pick goes. -/
def pickAt (v : Int) (n : Nat) : Nat := (v % n).toNat
theorem pick_none (v : Int) (a : Option Addr) (c : Nat) (w : World) :
    Calls Try.prog 14 #[.int .i64 v, .slice a 0 c] w fun e w' => e = .returned (.tuple #[actV 0 0 0, .int .i64 14]) ∧ Below w.heap.size w w' := by
  go_enter Try.func14, Try.ntmps14
  go_wp2
  exact bodyPost_ret (v := .tuple #[actV 0 0 0, .int .i64 14]) (by simp [results, Try.results14, go_sem]) rfl ⟨rfl, al1 _ _⟩
theorem tmod_pick (v : Int) (n : Nat) (hn : 1 ≤ n) : (v.tmod (n : Int) < 0 ∧ v.tmod (n : Int) + (n : Int) = v % (n : Int)) ∨ (0 ≤ v.tmod (n : Int) ∧ v.tmod (n : Int) = v % (n : Int)) := by
  have h0 := Int.emod_nonneg v (show (n : Int) ≠ 0 by omega)
  have h1 := Int.emod_lt_of_pos v (show (0 : Int) < (n : Int) by omega)
  rw [Int.tmod_eq_emod]
  split
  · right; omega
  · left; simp; omega
theorem pick_some (v : Int) (hv : -9223372036854775808 ≤ v ∧ v ≤ 9223372036854775807) (a : Option Addr) (c : Nat) (L : List ActT) (hn : 1 ≤ L.length) (hm : L.length ≤ 1000000) (x : ActT) (hx : L[pickAt v L.length]? = some x) (w : World) (h : Rd w 3 a L.length c (actsV L)) :
    Calls Try.prog 14 #[.int .i64 v, .slice a L.length c] w fun e w' => e = .returned (.tuple #[actV x.1 x.2.1 x.2.2, .int .i64 0]) ∧ Below w.heap.size w w' := by
  obtain ⟨b, o, rfl, x0, x1, x2⟩ := act_at h hx
  have hlt : pickAt v L.length < L.length := (List.getElem?_eq_some_iff.1 hx).1
  have hb := block_of_cell x0
  simp only at hb
  have hp : (pickAt v L.length : Int) = v % (L.length : Int) := by
    unfold pickAt
    have := Int.emod_nonneg v (show (L.length : Int) ≠ 0 by omega)
    omega
  have hz : ((L.length : Int) == 0) = false := by rw [beq_eq_false_iff_ne]; omega
  obtain ⟨hv1, hv2⟩ := hv
  generalize pickAt v L.length = q at *
  have q0 : (0 : Int) ≤ (q : Int) := by omega
  have q1 : (q : Int) < (L.length : Int) := by omega
  have hnl : (1 : Int) ≤ (L.length : Int) := by omega
  have hnm : (L.length : Int) ≤ 1000000 := by omega
  rcases tmod_pick v L.length (by omega) with ⟨h1, h2⟩ | ⟨h1, h2⟩
  · rw [← hp] at h2
    have hmod : v.tmod (L.length : Int) = (q : Int) - (L.length : Int) := by omega
    have hng : (q : Int) - (L.length : Int) < 0 := by omega
    clear h1 h2 hp hx hlt h hn hm
    go_enter Try.func14, Try.ntmps14
    go_wp2
    exact bodyPost_ret (v := .tuple #[actV x.1 x.2.1 x.2.2, .int .i64 0]) (by simp [results, Try.results14, go_sem]) rfl ⟨rfl, al1 _ _⟩
  · rw [← hp] at h2
    have hmod : v.tmod (L.length : Int) = (q : Int) := h2
    clear h1 h2 hp hx hlt h hn hm
    go_enter Try.func14, Try.ntmps14
    go_wp2
    exact bodyPost_ret (v := .tuple #[actV x.1 x.2.1 x.2.2, .int .i64 0]) (by simp [results, Try.results14, go_sem]) rfl ⟨rfl, al1 _ _⟩
end Go.Proofs.Ytpfcghigfkhimaa
