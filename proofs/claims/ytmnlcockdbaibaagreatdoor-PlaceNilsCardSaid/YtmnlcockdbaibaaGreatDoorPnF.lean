/-
  What the frame of PlaceNils needs: the variables that the row lists, a world for the witness.
-/
import Derived.Test.YtmnlcockdbaibaaGreatDoorPnS
import Derived.Test.YtmnlcockdbaibaaGreatDoorRows
import Derived.Test.YtmnlcockdbaibaaGreatDoorCards
import Derived.OpenShut
import Derived.Deep.DeepHandedRow
import Derived.Deep.DeepWitnessRowRef
import Derived.ChangeSame
import Derived.Carry
import Derived.SizedLaws
import Derived.Lay
import Derived.Lib.LaidTab
import Derived.Lib.LaidU8
namespace Go.Proofs.YtmnlcockdbaibaaGreatDoor
open Go.ChangeShapes Go.WideShapes Go.ChangeAt Go.Deep Go.RowKit
set_option linter.unusedVariables false
namespace Pn
theorem own : ownKnob Tryz.prog.godebug = none := by kernel_rfl
theorem laidOut : laidOutB Tryz.prog = true := by kernel_rfl
theorem gSpaceType : (Tryz.prog.globals[6]?).map (·.type) = some 571 := by kernel_rfl
theorem cells256 : Tryz.prog.cellsOf 571 = 256 := by kernel_rfl
theorem cells8 : Tryz.prog.cellsOf 5 = 1 := by kernel_rfl
theorem space_data : (Rows.laid_strings_asciiSpace : DataW Unit) = Lib.tabData .u8 Lib.asciiSpaceTab := by kernel_rfl
theorem tab_of_reads {W : World} (h : Lib.VarReads Tryz.prog W "strings.asciiSpace" Rows.laid_strings_asciiSpace) : Tab W := by
  obtain ⟨g', t', cs, fuel, p, hg', ht', hvar, hd⟩ := h
  obtain rfl := Option.some.inj (gSpace.symm.trans hg')
  obtain rfl := Option.some.inj (gSpaceType.symm.trans ht')
  rw [space_data] at hd
  unfold Tab Lib.TabIs
  rw [hvar, ← Lib.cells_of_tab Tryz.underlying571 Tryz.underlying5 cells8 cells256 hd]
theorem tab_of {W : World} (h : laidMetH Tryz.prog Rows.placeNilsRow.laid W) : Tab W := by
  have h' : laidMet Tryz.prog Rows.placeNilsRow.laid W := h
  exact tab_of_reads (Lib.laidMet.reads h' (by simp [Rows.placeNilsRow]))

/-- 'there is an input that fits', at a world whose shape is shown apart -/
theorem witness_row_sh {H : Type} {enc : TypeId × Value → H} {C : Checked} {os : Os} {f : FuncId} {fn : Func} {s : OpenSpec} {conds : List PathCond} {apart : Bool} {laid : List (String × DataW Unit)} (modest : Bool) (w0 : World) (args : Array Value) (hos : w0.os = os)
    (hsh : (w0.forCall (fun _ _ => 0) ⟨#[], args, []⟩).Shaped C.prog)
    (hok : Input.okWideB C.prog (w0.forCall (fun _ _ => 0) ⟨#[], args, []⟩) f ⟨#[], args, []⟩ = true)
    (hrow : s.preRow enc C.prog fn conds apart laid (w0.forCall (fun _ _ => 0) ⟨#[], args, []⟩).memory args) :
    ∃ (w : World) (tape : Tape) (i : Input), w.os = os ∧ (w.forCall tape i).Shaped C.prog ∧ i.vars = [] ∧ Input.okWide C.prog (w.forCall tape i) .any w.heap.size f i ∧
      s.preRow enc C.prog fn conds apart laid (w.forCall tape i).memory i.args ∧ ({ modest := modest } : Assume).holds C.prog (lone (Frame.enter C.prog f i.args .normal) [] (w.forCall tape i)) :=
  ⟨w0, fun _ _ => 0, ⟨#[], args, []⟩, hos, hsh, (Input.okWide_of_okWideB (base := 0) hok).1, (Input.okWide_of_okWideB hok).2, hrow, by
    simp only [Assume.holds]
    exact ⟨by simp, by simp, fun _ => Modest.zero, by simp, by simp⟩⟩
/-- a world for the witness: the variables laid by the kit's function -/
noncomputable def laidWorld (os : Os) : World := World.laidAll Tryz.prog os Rows.placeNilsRow.laid
theorem laid_met (os : Os) (args : Array Value) : laidMet Tryz.prog Rows.placeNilsRow.laid ((laidWorld os).forCall (fun _ _ => 0) ⟨#[], args, []⟩).memory :=
  laidMet_laidAll _ (by kernel_rfl) (by kernel_rfl)
end Pn
end Go.Proofs.YtmnlcockdbaibaaGreatDoor
