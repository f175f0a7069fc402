/- What the rows' lists of package-level variables give: 'Laid'. -/
import Derived.Test.YtgoegdlhbadlfaaDoorPr3
import Derived.Test.YtgoegdlhbadlfaaDoorRows
import Derived.Stop.LaidErr
import Derived.OpenShut
import Derived.ChangeArms
import Derived.Shelf.Vars
namespace Go.Proofs.YtgoegdlhbadlfaaDoor
namespace Pc
set_option maxRecDepth 100000
open Go.RowKit Go.ChangeShapes
theorem gSh : Tryd.prog.globalNamed "breviary/proc.shapes" = some 0 := by kernel_rfl
theorem gShType : (Tryd.prog.globals[0]?).map (·.type) = some 51 := by kernel_rfl
theorem cellsShape : Tryd.prog.cellsOf 50 = 2 := by kernel_rfl
theorem cellsStr : Tryd.prog.cellsOf 9 = 1 := by kernel_rfl
def shapeD (i : Nat) : DataW Unit := .agg [.lit (.string (wordN i)), .lit (.string (hasS i))]
theorem shapes_eq : (Rows.laid_breviary_proc_shapes : DataW Unit) = .agg ((List.range 16).map shapeD) := by kernel_rfl
theorem shape_cells {w : World} {base : Nat} {sp : Nat → Bool} {held : Bool} {fuel : Nat} {cs : List Value} {x : DataW Unit × List MemPlace} {i : Nat}
    (h : DataW.trod (fun _ => ()) Tryd.prog w base sp held fuel 50 cs = some x) (hx : x.1 = shapeD i) : cs[0]? = some (strV (wordN i)) ∧ cs[1]? = some (strV (hasS i)) := by
  obtain ⟨xs, n, _, rfl, hlen, hl, hel⟩ := DataW.trod_struct Tryd.underlying50 h
  rw [cellsShape] at hlen
  match cs, hlen with
  | [c0, c1], _ =>
    have g0 := hel 0 _ rfl
    have g1 := hel 1 _ rfl
    match xs, hl with
    | [y0, y1], _ =>
      simp [cellsStr] at g0 g1
      obtain ⟨s0, e0, f0, _⟩ := DataW.trod_string Tryd.underlying9 g0
      obtain ⟨s1, e1, f1, _⟩ := DataW.trod_string Tryd.underlying9 g1
      subst f0 f1
      simp [shapeD] at hx
      simp at e0 e1
      subst e0 e1
      have k0 : s0 = ⟨(wordN i).toArray⟩ := by rw [← hx.1]
      have k1 : s1 = ⟨(hasS i).toArray⟩ := by rw [← hx.2]
      subst k0 k1
      exact ⟨rfl, rfl⟩
theorem shapes_of {rest : List (String × DataW Unit)} {W : World} (h : laidMet Tryd.prog (("breviary/proc.shapes", Rows.laid_breviary_proc_shapes) :: rest) W) :
    ∀ n, n < 16 → W.cell? ⟨0, n * 2, none⟩ = some (strV (wordN n)) ∧ W.cell? ⟨0, n * 2 + 1, none⟩ = some (strV (hasS n)) := by
  obtain ⟨ps, ⟨g', t', cs, fuel, p, q, hg', ht', hvar, hd, _, _⟩, _⟩ := h
  obtain rfl := Option.some.inj (gSh.symm.trans hg')
  obtain rfl := Option.some.inj (gShType.symm.trans ht')
  rw [shapes_eq] at hd
  obtain ⟨xs, m, _, hx, hlen, hl, hel⟩ := DataW.trod_array Tryd.underlying51 hd
  intro n hn
  have hxs : xs.map (·.1) = (List.range 16).map shapeD := by
    have := congrArg Prod.fst hx
    simpa using this.symm
  have he := hel n hn
  rw [cellsShape] at he
  obtain ⟨y, hy⟩ : ∃ y, xs[n]? = some y := ⟨_, List.getElem?_eq_getElem (by omega)⟩
  rw [hy] at he
  have hy1 : y.1 = shapeD n := by
    have h1 : (xs.map (·.1))[n]? = some y.1 := by rw [List.getElem?_map, hy]; rfl
    rw [hxs, List.getElem?_map, List.getElem?_range hn] at h1
    simpa using h1.symm
  obtain ⟨k0, k1⟩ := shape_cells he hy1
  rw [World.var?_cell gSh hvar, World.var?_cell gSh hvar]
  rw [List.getElem?_take, List.getElem?_drop] at k0 k1
  simp at k0 k1
  exact ⟨k0, k1⟩
theorem gErrType : (Tryd.prog.globals[3]?).map (·.type) = some 46 := by kernel_rfl
theorem gPowType : (Tryd.prog.globals[1]?).map (·.type) = some 97 := by kernel_rfl
theorem cellsPow : Tryd.prog.cellsOf 97 = 20 := by kernel_rfl
theorem cellsU64 : Tryd.prog.cellsOf 84 = 1 := by kernel_rfl
theorem pow_eq : (Rows.laid_internal_strconv_uint64pow10 : DataW Unit) = Lib.tabData .u64 Lib.pow10Tab := by kernel_rfl
theorem pow_of {rest : List (String × DataW Unit)} {W : World} (h : laidMet Tryd.prog (("internal/strconv.uint64pow10", Rows.laid_internal_strconv_uint64pow10) :: rest) W) : Lib.TabIs Tryd.prog W "internal/strconv.uint64pow10" .u64 Lib.pow10Tab := by
  rw [pow_eq] at h
  exact Lib.tabIs_of_head gPow gPowType Tryd.underlying97 Tryd.underlying84 cellsU64 cellsPow h
theorem starErr : "*" ++ "errors.errorString" = "*errors.errorString" := by decide
theorem err_name (u : TypeId) (h : Tryd.prog.typeName? 3 u = some "*errors.errorString") : u = 127 :=
  typeName_ptr_named (nm := "errors.errorString") (by rw [starErr]; kernel_rfl) (by kernel_rfl) (by decide) u (by rw [starErr]; exact h)
theorem err_of {rest : List (String × DataW Unit)} {W : World} (h : laidMet Tryd.prog (("strconv.ErrSyntax", Rows.laid_strconv_ErrSyntax) :: rest) W) : ∃ tp p, W.var? Tryd.prog "strconv.ErrSyntax" = some #[.iface tp p] := by
  obtain ⟨a, s, h1, _⟩ := laid_sentinel (ti := 46) (tp := 127) (te := 129) (ts := 9) h gErr gErrType Tryd.underlying46 err_name Tryd.underlying127 Tryd.underlying129 rfl rfl Tryd.underlying9 (by kernel_rfl) cellsStr
  exact ⟨_, _, h1⟩
theorem most_of {W : World} (h : W.ShapedOpen Tryd.prog) : ∃ m, W.cell? ⟨2, 0, none⟩ = some (.int .i64 m) :=
  cell_of_shapedOpen_int (P := Tryd.prog) (g := 2) (t := 3) (zero := #[.int .i64 0]) h (of_decide_eq_true (by kernel_rfl)) (by kernel_rfl) rfl (by kernel_rfl) (by kernel_rfl) Tryd.underlying3
theorem zero8 : ((begin Tryd.prog (fun _ _ => 0) default).world.heap[8]?).bind Obj.row? ≠ none := by
  intro h
  have : (((begin Tryd.prog (fun _ _ => 0) default).world.heap[8]?).bind Obj.row?).isSome = true := by kernel_rfl
  rw [h] at this
  cases this
theorem size_of {W : World} (h : W.ShapedOpen Tryd.prog) : 9 ≤ W.heap.size := by
  cases h0 : ((begin Tryd.prog (fun _ _ => 0) default).world.heap[8]?).bind Obj.row? with
  | none => exact (zero8 h0).elim
  | some x =>
    obtain ⟨zero, t⟩ := x
    obtain ⟨cs, hc, _⟩ := h.1 8 zero t (of_decide_eq_true (by kernel_rfl)) h0
    have := (Array.getElem?_eq_some_iff.1 hc).1
    omega
/-- What the rows list, laid. -/
abbrev listP : List (String × DataW Unit) := [("math/bits.deBruijn32tab", Rows.laid_math_bits_deBruijn32tab), ("math/bits.deBruijn64tab", Rows.laid_math_bits_deBruijn64tab), ("internal/strconv.uint64pow10", Rows.laid_internal_strconv_uint64pow10), ("unicode/utf8.acceptRanges", Rows.laid_unicode_utf8_acceptRanges), ("strconv.ErrRange", Rows.laid_strconv_ErrRange), ("strconv.ErrSyntax", Rows.laid_strconv_ErrSyntax), ("breviary/proc.shapes", Rows.laid_breviary_proc_shapes), ("unicode/utf8.first", Rows.laid_unicode_utf8_first)]
theorem laid_of {W : World} (h : laidMet Tryd.prog listP W) (hs : W.ShapedOpen Tryd.prog) : Laid W := by
  have h3 := h.tail.tail
  have h6 := h3.tail.tail.tail
  have sh := shapes_of h6.tail
  exact ⟨fun n hn => (sh n hn).1, fun n hn => (sh n hn).2, pow_of h3, err_of h6, most_of hs, size_of hs⟩
end Pc
end Go.Proofs.YtgoegdlhbadlfaaDoor
