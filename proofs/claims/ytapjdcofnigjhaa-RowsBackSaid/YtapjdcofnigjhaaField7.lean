/- Package field: texts that are written; nil writers and readers; the document's numbers and texts. -/
import Derived.Test.YtapjdcofnigjhaaField6
import Derived.Test.YtapjdcofnigjhaaMemStr
namespace Go.Proofs.Ytapjdcofnigjhaa
open Go.RowKit
theorem Wr.app0 {w wr w2 : World} {g : Nat} {G G' F2 : Foot} {a' a2 : Option Addr} {c' c2 N : Nat} {bs' bs2 : List UInt8} (h : Wr wr g G' a' c' bs') (hf : Fr (wf g G) w wr) (hg : Grew w G G')
    (hs : Sl w2 1 F2 a2 N c2 (bytesV bs2)) (hfr : Fr G' wr w2) (hgr : Grew wr G' F2) (hl : Lies w2 F2) :
    w2.cell? ⟨g, 0, none⟩ = some (.slice a' bs'.length c') ∧ w2.frozen? ⟨g, 0, none⟩ = false ∧
    Wr (w2.setCell ⟨g, 0, none⟩ (.slice a2 N c2)) g F2 a2 c2 bs2 ∧ Fr (wf g G) w (w2.setCell ⟨g, 0, none⟩ (.slice a2 N c2)) ∧ Grew w G F2 := by
  have hN := sl_len hs
  subst hN
  have h2 : w2.cell? ⟨g, 0, none⟩ = some (.slice a' bs'.length c') := cell_fr hfr h.cell (h.ne 0)
  have h3 : w2.frozen? ⟨g, 0, none⟩ = false := (hfr.froz _ _ (block_of_cell h.cell) (h.ne 0)).trans h.froz
  have hne : ∀ o, ¬ F2 g o := fun o hg2 => by
    rcases hgr g o hg2 with h4 | h4
    · exact h.ne o h4
    · have := block_of_cell h.cell; simp only at this; omega
  have hg2 : Grew w G F2 := hg.trans hgr hf.size
  have hfw : Fr (wf g G) w w2 := hf.trans hfr (fun b o hb => by
    rcases hg b o hb with h4 | h4
    · exact .inl (.inr h4)
    · exact .inr h4)
  have hst : Fr (fun k i => k = g ∧ i = 0) w2 (w2.setCell ⟨g, 0, none⟩ (.slice a2 bs2.length c2)) := (Fr.refl _ w2).setCell (.inl ⟨rfl, rfl⟩) _
  exact ⟨h2, h3, ⟨World.cell?_setCell_same _ _ _ h2, by simpa using h3, hs.fr hst (fun b o hb ⟨e1, _⟩ => hne o (e1 ▸ hb)), hl.later hst, hne⟩, hfw.setCell (.inl (.inl rfl)) _, hg2⟩
theorem text_size (s : List UInt8) : (⟨s.toArray⟩ : ByteArray).size = s.length := by show s.toArray.size = _; simp
set_option maxHeartbeats 1000000 in
theorem wText_any (g : Nat) (G : Foot) (a : Option Addr) (c : Nat) (bs s : List UInt8) (hs : s.length ≤ 65536) (hb : bs.length ≤ 1000000) (w : World) (hw : Wr w g G a c bs) :
    Calls Try.prog 29 #[.pointer (some ⟨g, 0, none⟩), .string ⟨s.toArray⟩] w fun e w' => e = .returned (.int .i64 0) ∧ Writes w g G (bs ++ (Fd.grp s.length ++ s)) w' := by
  obtain ⟨i0, hi, hz0, hz1, hz2⟩ := info_parts Try.infoByte
  have HG := Lib.hid (groups_any g G a c bs s.length (by omega) hb w hw)
  have hten := Fd.grp_ten (n := s.length) (by omega)
  have hsz := text_size s
  have hl1 : (bs ++ Fd.grp s.length).length < 1000011 := by rw [List.length_append]; omega
  have HE : Hid (bs ++ (Fd.grp s.length ++ s) = (bs ++ Fd.grp s.length) ++ s) := Lib.hid (List.append_assoc ..).symm
  generalize bs ++ Fd.grp s.length = b1 at *
  clear hw hten
  go_enter Try.func29, Try.ntmps29
  go_wp2_with (first
    | (go_at_call 42; refine HG.out.mono ?_; rintro e w1 ⟨rfl, a1, c1, G1, hw1, hf1, hg1⟩; have H1 := Lib.hid (And.intro hw1 (And.intro hf1 hg1)); have r1 := hw1.cell; have r2 := hw1.froz; clear hw1 hf1 hg1)
    | (at_builtin; refine wpList_app_str rfl (.tmp 19) (.tmp 20) 25 9 rfl 5 i0 Try.underlying25 Try.underlying9 hi hz0 hz1 hz2 G1 a1 c1 b1 rfl H1.out.1.sl H1.out.1.lies s rfl (by omega) ?_; intro a2 c2 w2 F2 hsl hfr hgr hli; have HA := Lib.hid (H1.out.1.app0 H1.out.2.1 H1.out.2.2 hsl hfr hgr hli); have f1 := HA.out.1; have f2 := HA.out.2.1; clear hsl hfr hgr hli r1 r2))
  go_ret
  rw [HE.out]
  exact ⟨rfl, _, _, _, HA.out.2.2.1, HA.out.2.2.2.1, HA.out.2.2.2.2⟩
end Go.Proofs.Ytapjdcofnigjhaa
