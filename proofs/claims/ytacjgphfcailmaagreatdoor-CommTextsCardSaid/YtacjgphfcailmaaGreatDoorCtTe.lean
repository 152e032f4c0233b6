/-
  The places are rows.
-/
import Derived.Test.YtacjgphfcailmaaGreatDoorCtTb
import Derived.Test.YtacjgphfcailmaaGreatDoorRows
namespace Go.Proofs.YtacjgphfcailmaaGreatDoor
open Go
namespace Ti
theorem a11 : ∀ os tape, (DataW.laidRun Tryz.prog (varsWorld Tryz.prog 400 (varsId Tryz.prog) os tape).memory 8 (L.map (·.1))).map (fun x => laidRowsB Tryz.prog (varsWorld Tryz.prog 400 (varsId Tryz.prog) os tape).memory x.2) = some true := fun _ _ => by kernel_rfl
end Ti
end Go.Proofs.YtacjgphfcailmaaGreatDoor
