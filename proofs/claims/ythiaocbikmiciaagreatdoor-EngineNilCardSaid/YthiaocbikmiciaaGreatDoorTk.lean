/- A closed fact of the tie of this seat's listed variables to the program's text. -/
import Derived.Test.YthiaocbikmiciaaGreatDoorT0
import Derived.LaidOnce
namespace Go.Proofs.YthiaocbikmiciaaGreatDoor
open Go
theorem tie_k : tieL.map (fun x => Tryz.prog.kindOfLater x.1) = tieK.map some := by
  skip
  kernel_rfl
end Go.Proofs.YthiaocbikmiciaaGreatDoor
