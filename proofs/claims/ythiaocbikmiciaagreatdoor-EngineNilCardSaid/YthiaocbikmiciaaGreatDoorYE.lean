/- A part of the proof of one law's row. -/
import Derived.Test.YthiaocbikmiciaaGreatDoorYD
namespace Go.Proofs.YthiaocbikmiciaaGreatDoor
open Go.ChangeShapes Go.WideShapes Go.RowKit

abbrev LN : List (String × DataW Unit) := L.filter fun x => x.2.handleName?.isNone

/-- A world that meets the condition: errors.errorType's cell laid .. -/
noncomputable def baseW (os : Os) : World :=
  let w0 := World.holding Tryz.prog os ⟨#[], #[], []⟩
  { w0 with heap := w0.heap.modify 0 fun
      | .cells _ t frozen => .cells #[eT] t frozen
      | o => o }
/-- .. and the others'. -/
noncomputable def witW (os : Os) : World := (baseW os).layVars Tryz.prog LN

theorem witW_os (os : Os) : (witW os).os = os := World.layVars_os _ _ _

set_option maxRecDepth 100000 in
theorem fits (os : Os) : (baseW os).layFits Tryz.prog LN [] = true := by kernel_rfl
set_option maxRecDepth 100000 in
theorem ifaces (os : Os) : (baseW os).layIfaces Tryz.prog LN (witW os) = true := by kernel_rfl

theorem wit_laid (os : Os) (args : Array Value) : laidMet Tryz.prog LN ((witW os).forCall (fun _ _ => 0) ⟨#[], args, []⟩).memory := by
  have e1 : (LN.filter fun x => (LN.map (·.1)).contains x.1) = LN := List.filter_eq_self.2 fun x hx => List.contains_iff_mem.2 (List.mem_map.2 ⟨x, hx, rfl⟩)
  have e2 : (LN.filter fun x => !(LN.map (·.1)).contains x.1) = [] := List.filter_eq_nil_iff.2 fun x hx => by rw [List.contains_iff_mem.2 (List.mem_map.2 ⟨x, hx, rfl⟩)]; simp
  have h : laidMet Tryz.prog LN (witW os) := laidMet_layVars (w0 := baseW os) (LN.map (·.1)) [] (by rw [e1]; rfl) (by rw [e1]; exact fits os) (by rw [e1]; exact ifaces os) (by rw [e2]; exact LaidIn.none)
  exact h.of_heap (by simp [World.memory, World.forCall, Input.heap])

set_option maxRecDepth 100000 in
theorem wit_met (os : Os) (args : Array Value) : laidMetH Tryz.prog L ((witW os).forCall (fun _ _ => 0) ⟨#[], args, []⟩).memory :=
  laidMetH_of_parts (wit_laid os args) (by kernel_rfl)

/-- A call, all zero. -/
abbrev c0 : Value := .agg #[.int .i64 0, .string ⟨#[]⟩, .int .i64 0, .int .i64 0, .int .i64 0, .int .i64 0, .int .i64 0, .int .i64 0, .int .i64 0, .int .i64 0, .int .i64 0, .string ⟨#[]⟩, .int .i64 0, .int .i64 0, .int .i64 0]
end Go.Proofs.YthiaocbikmiciaaGreatDoor
