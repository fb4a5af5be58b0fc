/- A closed fact of the tie of this seat's listed variables to the program's text. -/
import Derived.Test.YthiaocbikmiciaaGreatDoorT0
import Derived.LaidOnce
namespace Go.Proofs.YthiaocbikmiciaaGreatDoor
open Go
theorem tie_h2b : ∀ os tape, (DataW.laidRun Tryz.prog (varsWorld Tryz.prog 400 (varsId Tryz.prog) os tape).memory 8 ((tieL.filter fun x => x.2.handleName?.isNone).map (·.1))).map (fun x => laidRowsB Tryz.prog (varsWorld Tryz.prog 400 (varsId Tryz.prog) os tape).memory x.2) = some true := by
  intro os tape
  kernel_rfl
end Go.Proofs.YthiaocbikmiciaaGreatDoor
