/- A part of the proof of one law's row. -/
import Derived.Test.YthiaocbikmiciaaGreatDoorYF
import Derived.Test.YthiaocbikmiciaaGreatDoorYG1
import Derived.Test.YthiaocbikmiciaaGreatDoorYG2
import Derived.Test.YthiaocbikmiciaaGreatDoorYG3
import Derived.Test.YthiaocbikmiciaaGreatDoorYG4
namespace Go.Proofs.YthiaocbikmiciaaGreatDoor
open Go.ChangeShapes Go.WideShapes Go.RowKit Go.ChangeAt

set_option maxRecDepth 100000 in
theorem facts : joinedFacts Tryz.prog 3 Tryz.f3 Rows.engineNilSpec Rows.engineNilRow = true := by
  simp only [joinedFacts, Bool.and_eq_true]
  repeat' apply And.intro
  all_goals first
    | with_reducible exact fact1
    | with_reducible exact fact2
    | with_reducible exact fact3
    | with_reducible exact fact4
    | kernel_rfl

theorem holds : Rows.EngineNilSaid :=
  OpenClaim.holds_of_wide 3 Tryz.f3 rfl rfl rfl rfl rfl rfl rfl ⟨rfl, rfl, rfl, rfl, rfl⟩ rfl rfl rfl rfl rfl (by kernel_rfl) Tryz.func3 facts
    (of_decide_eq_true (by kernel_rfl)) (by unfold Func.isWrapper; first | (rw [if_pos (by decide +kernel)]; kernel_rfl) | (rw [if_neg (by decide +kernel)]; exact ⟨rfl, rfl⟩))
    (fun os started H enc _ => lifted os started H enc)
#print axioms holds
end Go.Proofs.YthiaocbikmiciaaGreatDoor
