/-
  No place is met twice.
-/
import Derived.Test.YtacjgphfcailmaaGreatDoorCtTb
import Derived.Test.YtacjgphfcailmaaGreatDoorRows
namespace Go.Proofs.YtacjgphfcailmaaGreatDoor
open Go
namespace Ti
theorem a9 : ∀ os tape, (DataW.laidRun Tryz.prog (varsWorld Tryz.prog 400 (varsId Tryz.prog) os tape).memory 8 (L.map (·.1))).map (fun x => freshB x.2 .leaf) = some true := fun _ _ => by kernel_rfl
end Ti
end Go.Proofs.YtacjgphfcailmaaGreatDoor
