/- Nil writers and readers; texts that are too long; the document's texts; Few; awake of law02. -/
import Derived.Test.YtapjdcofnigjhaaField9
namespace Go.Proofs.Ytapjdcofnigjhaa
open Go.RowKit
theorem wText_big (g : Nat) (s : ByteArray) (hs : 65536 < s.size) (hs2 : s.size ≤ 1000000) (w : World) :
    Calls Try.prog 29 #[.pointer (some ⟨g, 0, none⟩), .string s] w fun e w' => e = .returned (.int .i64 23) ∧ w = w' := by
  have h1 : (65536 : Int) < (s.size : Int) := by omega
  go_enter Try.func29, Try.ntmps29
  go_wp2
  go_ret
  exact ⟨rfl, rfl⟩
theorem wText_nil (s : ByteArray) (w : World) : Calls Try.prog 29 #[.pointer none, .string s] w fun e w' => e = .returned (.int .i64 2) ∧ w = w' := by
  go_enter Try.func29, Try.ntmps29
  go_wp2
  go_ret
  exact ⟨rfl, rfl⟩
theorem wUint_nil (n : Int) (w : World) : Calls Try.prog 24 #[.pointer none, .int .i64 n] w fun e w' => e = .returned (.int .i64 2) ∧ w = w' := by
  go_enter Try.func24, Try.ntmps24
  go_wp2
  go_ret
  exact ⟨rfl, rfl⟩
theorem wInt_nil (n : Int) (w : World) : Calls Try.prog 27 #[.pointer none, .int .i64 n] w fun e w' => e = .returned (.int .i64 2) ∧ w = w' := by
  go_enter Try.func27, Try.ntmps27
  go_wp2
  go_ret
  exact ⟨rfl, rfl⟩
theorem wBytes_nil (w : World) : Calls Try.prog 30 #[.pointer none] w fun e w' => e = .returned (.slice none 0 0) ∧ w = w' := by
  go_enter Try.func30, Try.ntmps30
  go_wp2
  go_ret
  exact ⟨rfl, rfl⟩
theorem readI_nil (v : Value) (w : World) : Calls Try.prog 46 #[.pointer none, v] w fun e w' => e = .returned (.tuple #[.int .i64 0, .int .i64 2]) ∧ w = w' := by
  go_enter Try.func46, Try.ntmps46
  go_wp2
  go_ret2
  exact ⟨rfl, rfl⟩
theorem readT_nil (v : Value) (w : World) : Calls Try.prog 49 #[.pointer none, v] w fun e w' => e = .returned (.tuple #[.string ⟨([] : List UInt8).toArray⟩, .int .i64 2]) ∧ w = w' := by
  go_enter Try.func49, Try.ntmps49
  go_wp2
  go_ret2
  exact ⟨rfl, rfl⟩
theorem rUint_nil (w : World) : Calls Try.prog 33 #[.pointer none] w fun e w' => e = .returned (.tuple #[.int .i64 0, .int .i64 2]) ∧ w = w' := by
  go_enter Try.func33, Try.ntmps33
  go_wp2_with (go_at_call 46; refine (readI_nil _ _).mono ?_; rintro e w1 ⟨rfl, rfl⟩)
  go_ret2
  exact ⟨rfl, rfl⟩
theorem rInt_nil (w : World) : Calls Try.prog 34 #[.pointer none] w fun e w' => e = .returned (.tuple #[.int .i64 0, .int .i64 2]) ∧ w = w' := by
  go_enter Try.func34, Try.ntmps34
  go_wp2_with (go_at_call 46; refine (readI_nil _ _).mono ?_; rintro e w1 ⟨rfl, rfl⟩)
  go_ret2
  exact ⟨rfl, rfl⟩
theorem rText_nil (n : Int) (w : World) : Calls Try.prog 35 #[.pointer none, .int .i64 n] w fun e w' => e = .returned (.tuple #[.string ⟨([] : List UInt8).toArray⟩, .int .i64 2]) ∧ w = w' := by
  go_enter Try.func35, Try.ntmps35
  go_wp2_with (go_at_call 49; refine (readT_nil _ _).mono ?_; rintro e w1 ⟨rfl, rfl⟩)
  go_ret2
  exact ⟨rfl, rfl⟩
/-- '[]byte(s)'. -/
theorem conv_ex {P : Program} (src dst e : TypeId) (s : List UInt8) (hl : s.length ≤ maxLen) (hs : P.underlying src = some .string) (hd : P.underlying dst = some (.slice e)) (he : P.underlying e = some (.int .u8)) (w : World) :
    ∃ a c w', (convert src dst (.string ⟨s.toArray⟩)).run P w = .ok (.slice a s.length c) w' ∧ RdB w' a c s ∧ Below w.heap.size w w' := by
  have h := run_bytes_of_string (P := P) w src dst e ⟨s.toArray⟩ hs hd he
  rw [text_size] at h
  have hge := grownCap_ge w s.length 0 e
  have hcm : grownCap w s.length 0 e ≤ maxLen := grownCap_le_maxLen w s.length 0 e hl
  refine ⟨_, _, _, h, ⟨by rw [bytesV_length]; omega, hge, hcm, (fun h => by cases h), fun x hx i u hu => ?_, bytesV_one s⟩, (Below.refl _ _).drew.alloc (Nat.le_refl _) _⟩
  cases hx
  rw [Addr.add_lit, Nat.zero_add, cell_of_row _ w.heap.size i _ e _ (heap_alloc_new w.drew _)]
  unfold bytesV at hu
  rw [List.getElem?_map] at hu
  cases hg : s[i]? with
  | none => rw [hg] at hu; cases hu
  | some b =>
    rw [hg] at hu
    cases hu
    have hi := (List.getElem?_eq_some_iff.1 hg)
    obtain ⟨hi1, hi2⟩ := hi
    have := bytesRow_at ⟨s.toArray⟩ (grownCap w s.length 0 e) i (by simpa using hi1)
    rw [this]
    simp [hi2]
theorem wpList_conv {P : Program} {w : World} {ops : Array Oper} {rest : List Oper} {o : Oper} {a : Act} {Q : Exit → Act → World → Prop} (hgd : o.guard = none) (x : Operand) (src dst e : TypeId)
    (ho : o.op = .convert src dst x) (s : List UInt8) (hl : s.length ≤ maxLen) (hs : P.underlying src = some .string) (hd : P.underlying dst = some (.slice e)) (he : P.underlying e = some (.int .u8))
    (hx : a.eval x = .string ⟨s.toArray⟩)
    (h : ∀ a' c' w', RdB w' a' c' s → Below w.heap.size w w' → wpList P ops Q rest (a.put o.dst (.slice a' s.length c')) w') : wpList P ops Q (o :: rest) a w := by
  refine wpList_plain hgd fun K hK => ?_
  obtain ⟨a', c', w', hrun, h2, h3⟩ := conv_ex (P := P) src dst e s hl hs hd he w
  unfold Oper.wp
  simp [execOp, ho, resolve, hx, hrun, Result.andThen]
  exact hK _ _ (h _ _ _ h2 h3)
set_option maxHeartbeats 1000000 in
theorem refText (s : List UInt8) (hs : s.length ≤ 100000) (w : World) :
    Calls Try.prog 28 #[.string ⟨s.toArray⟩] w fun e w' => GivesB w (Fd.grp s.length ++ s) e w' := by
  obtain ⟨i0, hi, hz0, hz1, hz2⟩ := info_parts Try.infoByte
  have HU := Lib.hid (fun w => refUint s.length (by omega) w)
  have hten := Fd.grp_ten (n := s.length) (by omega)
  have hsz := text_size s
  generalize hG : Fd.grp s.length = G at *
  clear hG
  have HGS : Hid (G.length + s.length = (G ++ s).length) := Lib.hid (by rw [List.length_append])
  go_enter Try.func28, Try.ntmps28
  go_wp2_with (first
    | (go_at_call 25; refine (HU.out _).mono ?_; rintro e w1 ⟨a1, c1, rfl, hr, hb⟩; have H1 := Lib.hid (And.intro hr hb); clear hr hb)
    | (refine wpList_conv rfl (.tmp 10) 9 25 5 rfl s (by unfold maxLen; omega) Try.underlying9 Try.underlying25 Try.underlying5 rfl ?_; intro a3 c3 w3 hr hb; have H3 := Lib.hid (And.intro hr (And.intro (H2.out.later hb) hb)); clear hr hb)
    | (at_builtin; refine wpList_app_bloc rfl (.tmp 4) (.tmp 7) 25 rfl 5 i0 Try.underlying25 hi hz0 hz1 hz2 w none 0 [] rfl (Loc.start 1 w w1 H1.out.2) a1 c1 G rfl H1.out.1 G.length (Nat.zero_add _) (by omega) ?_; intro a2 c2 w2 ho; have H2 := Lib.hid ho; clear ho)
    | (at_builtin; refine wpList_app_bloc rfl (.tmp 9) (.tmp 11) 25 rfl 5 i0 Try.underlying25 hi hz0 hz1 hz2 w a2 c2 G rfl H3.out.2.1 a3 c3 s rfl H3.out.1 (G ++ s).length HGS.out (by rw [List.length_append]; omega) ?_; intro a4 c4 w4 ho; have H4 := Lib.hid ho; clear ho))
  go_ret
  exact ⟨a4, c4, by rw [← HGS.out]; rfl, H4.out.rd, H4.out.low⟩
end Go.Proofs.Ytapjdcofnigjhaa
