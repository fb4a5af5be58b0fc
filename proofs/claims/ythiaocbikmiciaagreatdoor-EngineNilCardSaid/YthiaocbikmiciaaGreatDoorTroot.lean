/- A closed fact of the tie of this seat's listed variables to the program's text. -/
import Derived.Test.YthiaocbikmiciaaGreatDoorT0
import Derived.LaidOnce
namespace Go.Proofs.YthiaocbikmiciaaGreatDoor
open Go
theorem tie_root : Tryz.prog.worded rootWordLater = true := by
  skip
  kernel_rfl
end Go.Proofs.YthiaocbikmiciaaGreatDoor
