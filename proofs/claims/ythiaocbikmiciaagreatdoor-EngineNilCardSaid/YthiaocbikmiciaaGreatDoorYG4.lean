/- A part of the proof of one law's row. -/
import Derived.Test.YthiaocbikmiciaaGreatDoorRows
import Derived.JoinedOf
namespace Go.Proofs.YthiaocbikmiciaaGreatDoor
set_option maxRecDepth 100000 in
theorem fact4 : (Rows.engineNilRow.named == Tryz.prog.varsNamed 3) = true := by kernel_rfl
end Go.Proofs.YthiaocbikmiciaaGreatDoor
