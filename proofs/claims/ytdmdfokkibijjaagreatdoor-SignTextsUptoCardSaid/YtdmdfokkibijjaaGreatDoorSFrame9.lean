/-
  What the frames of SignParses and SignTexts share: the nine variables, the table and the variables of the library out of the row's list.
-/
import Derived.Test.YtdmdfokkibijjaaGreatDoorSFrame
import Derived.SizedLaws
import Derived.Lay
import Derived.Test.YtdmdfokkibijjaaGreatDoorSW43
namespace Go.Proofs.YtdmdfokkibijjaaGreatDoor
open Go.ChangeShapes Go.WideShapes Go.ChangeAt Go.RowKit
open Go.ChangeMaps (open_string shut_string)
set_option linter.unusedVariables false

/-- the nine variables that this row lists -/
def laid9 : List (String × DataW Unit) := [("math/bits.deBruijn32tab", Rows.laid_math_bits_deBruijn32tab), ("math/bits.deBruijn64tab", Rows.laid_math_bits_deBruijn64tab), ("internal/strconv.uint64pow10", Rows.laid_internal_strconv_uint64pow10), ("unicode/utf8.acceptRanges", Rows.laid_unicode_utf8_acceptRanges), ("strconv.ErrRange", Rows.laid_strconv_ErrRange), ("strconv.ErrSyntax", Rows.laid_strconv_ErrSyntax), ("unicode.White_Space", Rows.laid_unicode_White_Space), ("strings.asciiSpace", Rows.laid_strings_asciiSpace), ("unicode/utf8.first", Rows.laid_unicode_utf8_first)]
theorem tab_of9 {W : World} (h : laidMetH Tryz.prog laid9 W) : Tab W := by
  have h' : laidMet Tryz.prog laid9 W := h
  exact tab_of_reads (Lib.laidMet.reads h' (by simp [laid9]))

/-- 'there is an input that fits', at a world whose shape is shown apart -/
theorem witness_row_sh {H : Type} {enc : TypeId × Value → H} {C : Checked} {os : Os} {f : FuncId} {fn : Func} {s : OpenSpec} {conds : List PathCond} {apart : Bool} {laid : List (String × DataW Unit)} (modest : Bool) (w0 : World) (args : Array Value) (hos : w0.os = os)
    (hsh : (w0.forCall (fun _ _ => 0) ⟨#[], args, []⟩).Shaped C.prog)
    (hok : Input.okWideB C.prog (w0.forCall (fun _ _ => 0) ⟨#[], args, []⟩) f ⟨#[], args, []⟩ = true)
    (hrow : s.preRow enc C.prog fn conds apart laid (w0.forCall (fun _ _ => 0) ⟨#[], args, []⟩).memory args) :
    ∃ (w : World) (tape : Tape) (i : Input), w.os = os ∧ (w.forCall tape i).Shaped C.prog ∧ i.vars = [] ∧ Input.okWide C.prog (w.forCall tape i) .any w.heap.size f i ∧
      s.preRow enc C.prog fn conds apart laid (w.forCall tape i).memory i.args ∧ ({ modest := modest } : Assume).holds C.prog (lone (Frame.enter C.prog f i.args .normal) [] (w.forCall tape i)) :=
  ⟨w0, fun _ _ => 0, ⟨#[], args, []⟩, hos, hsh, (Input.okWide_of_okWideB (base := 0) hok).1, (Input.okWide_of_okWideB hok).2, hrow, by
    simp only [Assume.holds]
    exact ⟨by simp, by simp, fun _ => Modest.zero, by simp, by simp⟩⟩

/-- a world for the witness: the nine variables laid by the kit's function -/
noncomputable def laidWorld9 (os : Os) : World := World.laidAll Tryz.prog os laid9
theorem laid_met9 (os : Os) (args : Array Value) : laidMet Tryz.prog laid9 ((laidWorld9 os).forCall (fun _ _ => 0) ⟨#[], args, []⟩).memory :=
  laidMet_laidAll _ (by kernel_rfl) (by kernel_rfl)

theorem cell_of_iface {W : World} {n nm : String} {d : DataW Unit} {g t : Nat} {ms : Array (String × TypeId)} (h : Lib.VarReads Tryz.prog W n (.iface nm d)) (hg : Tryz.prog.globalNamed n = some g) (ht : (Tryz.prog.globals[g]?).map (·.type) = some t) (hi : Tryz.prog.underlying t = some (.interface ms)) :
    ∃ ev, W.cell? ⟨g, 0, none⟩ = some ev ∧ (ev = .nilIface ∨ ∃ te pe, ev = .iface te pe) := by
  obtain ⟨g', t', cs, fuel, p, hg', ht', hvar, hd⟩ := h
  obtain rfl := Option.some.inj (hg.symm.trans hg')
  obtain rfl := Option.some.inj (ht.symm.trans ht')
  obtain ⟨f1, u, v, hcs, -, -⟩ := iface_of_trod hi hd
  refine ⟨.iface u v, ?_, .inr ⟨u, v, rfl⟩⟩
  have h0 := World.var?_cell hg hvar 0
  have hc : cs[0]? = some (.iface u v) := by
    rw [show cs[0]? = cs.toList[0]? by simp, hcs]
    rfl
  rw [hc] at h0
  exact h0
theorem env_of {W : World} (h : laidMetH Tryz.prog laid9 W) (hsh : W.ShapedOpen Tryz.prog) : Env W := by
  have h' : laidMet Tryz.prog laid9 W := h
  exact ⟨Tryz.laysM145.s1_3 W hsh, cell_of_iface (Lib.laidMet.reads h' (n := "strconv.ErrSyntax") (d := Rows.laid_strconv_ErrSyntax) (by simp [laid9])) (t := 46) (by kernel_rfl) (by kernel_rfl) Tryz.underlying46,
    cell_of_iface (Lib.laidMet.reads h' (n := "strconv.ErrRange") (d := Rows.laid_strconv_ErrRange) (by simp [laid9])) (t := 46) (by kernel_rfl) (by kernel_rfl) Tryz.underlying46⟩

theorem shaped9a (os : Os) : ((laidWorld9 os).forCall (fun _ _ => 0) ⟨#[], #[.string ⟨#[]⟩], []⟩).Shaped Tryz.prog :=
  World.shaped_of_ZipB (by kernel_rfl) (by kernel_rfl)

end Go.Proofs.YtdmdfokkibijjaaGreatDoor
