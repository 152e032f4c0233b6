/-
  Layer 20: Awake returns true: the small machine finds it.
-/
import Derived.Test.YtacjgphfcailmaaGreatDoorCtF
import Derived.Test.YtacjgphfcailmaaGreatDoorCtC
import Derived.Test.YtacjgphfcailmaaGreatDoorW12
import Derived.Test.YtacjgphfcailmaaGreatDoorName
namespace Go.Proofs.YtacjgphfcailmaaGreatDoor
open Go.RowKit
namespace Ev
/-- the document's IsName and one are (most likely) not in this law's program; if they are: orc_of, as in wip/vn/VnS -/
theorem orc : OrcOK Tab Tryz.prog :=
  orc_tok (F1 := 179) (by kernel_rfl) (by kernel_rfl) (by kernel_rfl) (by kernel_rfl) (fun s W w hs hE hb => isName_any s w (hE.on hb) (by omega))
set_option maxRecDepth 100000 in
theorem awake_true : isTrue (callA Tryz.prog (evC Tryz.prog 100000) 5 [] 64 (drops 64) []) = true := by kernel_rfl
end Ev
namespace CtF
open Ev
theorem gSpaceType : (Tryz.prog.globals[3]?).map (·.type) = some 520 := by kernel_rfl
theorem cells256 : Tryz.prog.cellsOf 520 = 256 := by kernel_rfl
theorem cells8 : Tryz.prog.cellsOf 5 = 1 := by kernel_rfl
theorem space_data : (Rows.laid_strings_asciiSpace : DataW Unit) = Lib.tabData .u8 Lib.asciiSpaceTab := by kernel_rfl
theorem tab_of_reads {W : World} (h : Lib.VarReads Tryz.prog W "strings.asciiSpace" Rows.laid_strings_asciiSpace) : Tab W := by
  obtain ⟨g', t', cs, fuel, p, hg', ht', hvar, hd⟩ := h
  obtain rfl := Option.some.inj (gSpace.symm.trans hg')
  obtain rfl := Option.some.inj (gSpaceType.symm.trans ht')
  rw [space_data] at hd
  unfold Tab Lib.TabIs
  rw [hvar, ← Lib.cells_of_tab Tryz.underlying520 Tryz.underlying5 cells8 cells256 hd]
theorem tab_of {W : World} (h : laidMetH Tryz.prog Rows.commTextsRow.laid W) : Tab W := by
  have h' : laidMet Tryz.prog Rows.commTextsRow.laid W := h
  exact tab_of_reads (Lib.laidMet.reads h' (by simp [Rows.commTextsRow]))
theorem awake_laid (W : World) (h : laidMetH Tryz.prog Rows.commTextsRow.laid W) : AwakeOK W := fun u hb =>
  awake_of (by kernel_rfl) ⟨orc, cnt⟩ awake_true u ((tab_of h).on hb) (drops_start u)
end CtF
end Go.Proofs.YtacjgphfcailmaaGreatDoor
