/-
  A part of First: its text is loaded.
-/
import Derived.Test.YtmnlcockdbaibaaGreatDoorPnSa
namespace Go.Proofs.YtmnlcockdbaibaaGreatDoor
open Go.RowKit
namespace Ev
set_option maxRecDepth 100000 in
theorem ch1 : landB (firstK (evC Tryz.prog 100000) 2 (fnF.2) ⟨max fnF.1.ntmps ([] : List AV).length, fromL [] 0⟩ 64 (drops 64) []) tms1 978 mem1 = true := by kernel_rfl
end Ev
end Go.Proofs.YtmnlcockdbaibaaGreatDoor
