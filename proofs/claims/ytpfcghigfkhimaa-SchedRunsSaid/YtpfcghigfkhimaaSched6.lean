/- Package sched: what Acts holds while it works. -/
import Derived.Test.YtpfcghigfkhimaaSched5
namespace Go.Proofs.Ytpfcghigfkhimaa
open Go.RowKit

theorem Slot.no_cell {w : World} {c : Nat} {o : Option Int} (h : Slot w c o) (i : Nat) : w.cell? ⟨c, i, none⟩ = none := by
  obtain ⟨s, r, h⟩ := h
  simp [World.cell?, h]
theorem Brd.no_cell {w : World} {g sb : Nat} {chs : List Nat} {st : List (Option Int)} (h : Brd w g sb chs st) {b o : Nat} {u : Value} (hc : w.cell? ⟨b, o, none⟩ = some u) : ∀ o', ¬ bF chs b o' := by
  intro o' hb
  obtain ⟨i, hi, e⟩ := List.getElem_of_mem hb
  have hlen := h.len
  have := (h.slots i b (st[i]'(by omega)) (by rw [List.getElem?_eq_getElem hi, e]) (List.getElem?_eq_getElem (by omega))).no_cell o
  rw [hc] at this
  cases this
theorem Rd.fr {S : Foot} {w w' : World} {size : Nat} {a : Option Addr} {n c : Nat} {vs : List Value} (h : Rd w size a n c vs) (hf : Fr S w w') (hs : ∀ b o u, w.cell? ⟨b, o, none⟩ = some u → ∀ o', ¬ S b o') : Rd w' size a n c vs := by
  refine ⟨h.len, h.le, h.cap, h.nil, fun x hx i u hu => ?_, h.one⟩
  have hc := h.cell x hx i u hu
  have hsp := World.cell?_spot hc
  generalize x.add i = y at hc hsp ⊢
  obtain ⟨b, o, s⟩ := y
  have : s = none := hsp
  subst this
  exact cell_fr hf hc (hs b _ u hc _)

structure J (w0 w : World) (g sb : Nat) (chs : List Nat) (st : List (Option Int)) (M : Nat) (ids : List Int) (Fa : Foot) (aa : Option Addr) (ca : Nat) (As : List ActT) (Fe : Foot) (ae : Option Addr) (ce : Nat) (Es : List ActT) (Fi : Foot) (ai : Option Addr) (ci : Nat) (il : List Int) : Prop where
  brd : Brd w g sb chs st
  fr : Fr (bF chs) w0 w
  a : Sl w 3 Fa aa As.length ca (actsV As)
  la : Lies w Fa
  fa : ∀ b o, Fa b o → w0.heap.size ≤ b
  e : Sl w 3 Fe ae Es.length ce (actsV Es)
  le : Lies w Fe
  fe : ∀ b o, Fe b o → w0.heap.size ≤ b
  i : Sl w 1 Fi ai il.length ci (intsV il)
  li : Lies w Fi
  fi : ∀ b o, Fi b o → w0.heap.size ≤ b
  m : ISet w M ids
  fm : w0.heap.size ≤ M
  dae : Apart Fa Fe
  dai : Apart Fa Fi
  dei : Apart Fe Fi
  am : ∀ o, ¬ Fa M o
  em : ∀ o, ¬ Fe M o
  im : ∀ o, ¬ Fi M o
section
variable {w0 w w' : World} {g sb : Nat} {chs : List Nat} {st : List (Option Int)} {M : Nat} {ids ids' : List Int} {Fa Fa' : Foot} {aa aa' : Option Addr} {ca ca' : Nat} {As As' : List ActT} {Fe Fe' : Foot} {ae ae' : Option Addr} {ce ce' : Nat} {Es Es' : List ActT} {Fi : Foot} {ai : Option Addr} {ci : Nat} {il : List Int}
theorem J.keep {S : Foot} (h : J w0 w g sb chs st M ids Fa aa ca As Fe ae ce Es Fi ai ci il) (hf : Fr S w w') (hb : Brd w' g sb chs st) (hfr : Fr (bF chs) w0 w') (d1 : Apart Fa S) (d2 : Apart Fe S) (d3 : Apart Fi S) (d4 : ∀ o, ¬ S M o) :
    J w0 w' g sb chs st M ids Fa aa ca As Fe ae ce Es Fi ai ci il :=
  ⟨hb, hfr, h.a.fr hf d1, h.la.later hf, h.fa, h.e.fr hf d2, h.le.later hf, h.fe, h.i.fr hf d3, h.li.later hf, h.fi, h.m.fr hf d4, h.fm, h.dae, h.dai, h.dei, h.am, h.em, h.im⟩
theorem J.chan (h : J w0 w g sb chs st M ids Fa aa ca As Fe ae ce Es Fi ai ci il) (h0 : ∀ b o, bF chs b o → b < w0.heap.size) (hf : Fr (bF chs) w w') (hb : Brd w' g sb chs st) : J w0 w' g sb chs st M ids Fa aa ca As Fe ae ce Es Fi ai ci il := by
  refine h.keep hf hb (h.fr.trans hf fun b o hb => .inl hb) (fun b o h1 h2 => ?_) (fun b o h1 h2 => ?_) (fun b o h1 h2 => ?_) (fun o h2 => ?_)
  · have := h.fa b o h1; have := h0 b o h2; omega
  · have := h.fe b o h1; have := h0 b o h2; omega
  · have := h.fi b o h1; have := h0 b o h2; omega
  · have := h.fm; have := h0 M o h2; omega
theorem J.later (h : J w0 w g sb chs st M ids Fa aa ca As Fe ae ce Es Fi ai ci il) (hb : Below w.heap.size w w') : J w0 w' g sb chs st M ids Fa aa ca As Fe ae ce Es Fi ai ci il :=
  h.keep (Fr.ofBelow hb noCells) (h.brd.later hb) (h.fr.trans (Fr.ofBelow hb noCells) fun _ _ h => h.elim) (fun _ _ _ h => h) (fun _ _ _ h => h) (fun _ _ _ h => h) (fun _ h => h)
theorem J.put (h : J w0 w g sb chs st M ids Fa aa ca As Fe ae ce Es Fi ai ci il) (h0 : Brd w0 g sb chs st) (hf : Fr (fun k _ => k = M) w w') (hm : ISet w' M ids') : J w0 w' g sb chs st M ids' Fa aa ca As Fe ae ce Es Fi ai ci il := by
  have hb : Brd w' g sb chs st := Brd.stay g sb chs st h0 h.brd hf (fun b o e => e ▸ h.fm)
  exact ⟨hb, h.fr.trans hf (fun b o e => .inr (e ▸ h.fm)), h.a.fr hf (fun b o h1 e => h.am o (e ▸ h1)), h.la.later hf, h.fa, h.e.fr hf (fun b o h1 e => h.em o (e ▸ h1)), h.le.later hf, h.fe, h.i.fr hf (fun b o h1 e => h.im o (e ▸ h1)), h.li.later hf, h.fi, hm, h.fm, h.dae, h.dai, h.dei, h.am, h.em, h.im⟩
theorem J.growA (h : J w0 w g sb chs st M ids Fa aa ca As Fe ae ce Es Fi ai ci il) (h0 : Brd w0 g sb chs st) (hs : Sl w' 3 Fa' aa' As'.length ca' (actsV As')) (hf : Fr Fa w w') (hg : Grew w Fa Fa') (hl : Lies w' Fa') : J w0 w' g sb chs st M ids Fa' aa' ca' As' Fe ae ce Es Fi ai ci il := by
  have hb : Brd w' g sb chs st := Brd.stay g sb chs st h0 h.brd hf h.fa
  refine ⟨hb, h.fr.trans hf (fun b o e => .inr (h.fa b o e)), hs, hl, fun b o h1 => ?_, h.e.fr hf h.dae.symm, h.le.later hf, h.fe, h.i.fr hf h.dai.symm, h.li.later hf, h.fi, h.m.fr hf h.am, h.fm, (h.dae.symm.grew h.le hg).symm, (h.dai.symm.grew h.li hg).symm, h.dei, fun o h1 => ?_, h.em, h.im⟩
  · rcases hg b o h1 with h2 | h2
    · exact h.fa b o h2
    · have := h.fr.size; omega
  · rcases hg M o h1 with h2 | h2
    · exact h.am o h2
    · have := h.m.lt; omega
theorem J.growE (h : J w0 w g sb chs st M ids Fa aa ca As Fe ae ce Es Fi ai ci il) (h0 : Brd w0 g sb chs st) (hs : Sl w' 3 Fe' ae' Es'.length ce' (actsV Es')) (hf : Fr Fe w w') (hg : Grew w Fe Fe') (hl : Lies w' Fe') : J w0 w' g sb chs st M ids Fa aa ca As Fe' ae' ce' Es' Fi ai ci il := by
  have hb : Brd w' g sb chs st := Brd.stay g sb chs st h0 h.brd hf h.fe
  refine ⟨hb, h.fr.trans hf (fun b o e => .inr (h.fe b o e)), h.a.fr hf h.dae, h.la.later hf, h.fa, hs, hl, fun b o h1 => ?_, h.i.fr hf h.dei.symm, h.li.later hf, h.fi, h.m.fr hf h.em, h.fm, h.dae.grew h.la hg, h.dai, (h.dei.symm.grew h.li hg).symm, h.am, fun o h1 => ?_, h.im⟩
  · rcases hg b o h1 with h2 | h2
    · exact h.fe b o h2
    · have := h.fr.size; omega
  · rcases hg M o h1 with h2 | h2
    · exact h.em o h2
    · have := h.m.lt; omega
/-- The workers that do nothing come in. -/
theorem J.idle (h : J w0 w g sb chs st M ids Fa aa ca As Fe ae ce Es noCells none 0 []) (h0 : ∀ b o, bF chs b o → b < w0.heap.size) (hi : LocF (bF chs) 1 w w' ai il.length ci (intsV il)) (hb : Brd w' g sb chs st) : ∃ Fi, J w0 w' g sb chs st M ids Fa aa ca As Fe ae ce Es Fi ai ci il := by
  obtain ⟨Fi, h1, h2, h3, h4⟩ := hi
  have hj := h.chan h0 h4 hb
  refine ⟨Fi, ⟨hj.brd, hj.fr, hj.a, hj.la, hj.fa, hj.e, hj.le, hj.fe, h1, h2, fun b o hf => ?_, hj.m, hj.fm, hj.dae, fun b o ha hf => ?_, fun b o ha hf => ?_, hj.am, hj.em, fun o hf => ?_⟩⟩
  · have := h3 b o hf; have := h.fr.size; omega
  · have := h3 b o hf; have := h.la b o ha; omega
  · have := h3 b o hf; have := h.le b o ha; omega
  · have := h3 M o hf; have := h.m.lt; omega
theorem J.start {wa : World} (h0 : Brd w0 g sb chs st) (hb : Brd wa g sb chs st) (hf : Fr (bF chs) w0 wa) (ha : Sl wa 3 Fa aa As.length ca (actsV As)) (hl : Lies wa Fa) (hfa : ∀ b o, Fa b o → w0.heap.size ≤ b) :
    J w0 (wa.alloc (.map #[] 0)) g sb chs st wa.heap.size [] Fa aa ca As noCells none 0 [] noCells none 0 [] := by
  have hlt : Below wa.heap.size wa (wa.alloc (.map #[] 0)) := (Below.refl _ _).alloc (Nat.le_refl _) _
  exact ⟨hb.later hlt, hf.alloc _, ha.laid _, hl.laid _, hfa, Sl.none_ _ 3, fun _ _ h => h.elim, fun _ _ h => h.elim, Sl.none_ _ 1, fun _ _ h => h.elim, fun _ _ h => h.elim, ISet.made wa, hf.size, fun _ _ _ h => h, fun _ _ _ h => h, fun _ _ h => h.elim, fun o h => by have := hl _ _ h; omega, fun _ h => h, fun _ h => h⟩
end
end Go.Proofs.Ytpfcghigfkhimaa
