/- The law tapestrylaw22.EngineNil answers true at every call and number, and leaves them as they were: the row's tied card. Conditions: the listed package-level variables start as the program's text lays them. -/
import Derived.Test.YthiaocbikmiciaaGreatDoorCards
import Derived.Test.YthiaocbikmiciaaGreatDoorYH
import Derived.Test.YthiaocbikmiciaaGreatDoorTZ
namespace Go.Proofs.YthiaocbikmiciaaGreatDoor
open Go

theorem card_holds : Rows.EngineNilCardSaid :=
  Claim7.holds_tied_plain_at .later [] [.sentinel, .sentinel, .data, .data, .data, .data, .listed, .pinned, .data, .handle] true (true, "de037b6dafe1a35b8536c64a13524f32d6bf5606593d89d122f4692d7b4dd5d5") true
    holds (fun _ h => by cases h) (by kernel_rfl) (fun _ h => by cases h) engineNil_row_tie rfl ⟨rfl, rfl⟩ (by kernel_rfl) rfl
    (fun f fn hf hfn => by
      obtain rfl : f = 3 := Option.some.inj ((show Tryz.prog.funcNamed "tapestry/tapestrylaw22.EngineNil" = some 3 by kernel_rfl).symm.trans hf) |>.symm
      obtain rfl : fn = Tryz.f3 := (Option.some.inj (Tryz.func3.symm.trans hfn)).symm
      exact ⟨by kernel_rfl, fun j t ht => by
        rw [params3] at ht
        have hm : t ∈ [25, 3] := by simpa using Array.mem_of_getElem? ht
        have hall : ([25, 3].all fun u => !Tryz.prog.wantsStandIn u) = true := by kernel_rfl
        exact (show Tryz.prog.wantsStandIn t = false by simpa using List.all_eq_true.1 hall t hm)⟩)
    (by kernel_rfl)
#print axioms card_holds
end Go.Proofs.YthiaocbikmiciaaGreatDoor
