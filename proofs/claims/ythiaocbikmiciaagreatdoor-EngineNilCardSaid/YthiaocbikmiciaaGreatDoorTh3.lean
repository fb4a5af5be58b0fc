/- A closed fact of the tie of this seat's listed variables to the program's text. -/
import Derived.Test.YthiaocbikmiciaaGreatDoorT0
import Derived.LaidOnce
namespace Go.Proofs.YthiaocbikmiciaaGreatDoor
open Go
theorem tie_h3 : ∀ os tape, (tieL.filter fun x => x.2.handleName?.isSome).all (handleAtB Tryz.prog (varsWorld Tryz.prog 400 (varsId Tryz.prog) os tape).memory) = true := by
  intro os tape
  kernel_rfl
end Go.Proofs.YthiaocbikmiciaaGreatDoor
