/-
  A part of First: its machine is made.
-/
import Derived.Test.YtmnlcockdbaibaaGreatDoorPnSa
namespace Go.Proofs.YtmnlcockdbaibaaGreatDoor
open Go.RowKit
namespace Ev
set_option maxRecDepth 100000 in
theorem ch2 : landB (firstK (evC Tryz.prog 100000) 3 (restK 2 (fnF.2)) ⟨tms1.length, fromL tms1 0⟩ 978 mem1 []) tms2 2094 mem2 = true := by kernel_rfl
end Ev
end Go.Proofs.YtmnlcockdbaibaaGreatDoor
