/- The tie of the row's listed variables to the program's text. -/
import Derived.Test.YthiaocbikmiciaaGreatDoorTk
import Derived.Test.YthiaocbikmiciaaGreatDoorTw
import Derived.Test.YthiaocbikmiciaaGreatDoorTw2
import Derived.Test.YthiaocbikmiciaaGreatDoorTroot
import Derived.Test.YthiaocbikmiciaaGreatDoorTg
import Derived.Test.YthiaocbikmiciaaGreatDoorTn
import Derived.Test.YthiaocbikmiciaaGreatDoorTd
import Derived.Test.YthiaocbikmiciaaGreatDoorTh1
import Derived.Test.YthiaocbikmiciaaGreatDoorTh2n
import Derived.Test.YthiaocbikmiciaaGreatDoorTh2b
import Derived.Test.YthiaocbikmiciaaGreatDoorTh3
import Derived.Test.YthiaocbikmiciaaGreatDoorTf
import Derived.Test.YthiaocbikmiciaaGreatDoorTf1
namespace Go.Proofs.YthiaocbikmiciaaGreatDoor
open Go

theorem tie_h2 : ∀ os tape, (DataW.laidRun Tryz.prog (varsWorld Tryz.prog 400 (varsId Tryz.prog) os tape).memory 8 ((tieL.filter fun x => x.2.handleName?.isNone).map (·.1))).map (fun x => decide x.2.Nodup && laidRowsB Tryz.prog (varsWorld Tryz.prog 400 (varsId Tryz.prog) os tape).memory x.2) = some true := by
  intro os tape
  have a := tie_h2n os tape
  have b := tie_h2b os tape
  generalize DataW.laidRun Tryz.prog (varsWorld Tryz.prog 400 (varsId Tryz.prog) os tape).memory 8 ((tieL.filter fun x => x.2.handleName?.isNone).map (·.1)) = r at a b
  cases r with
  | none => cases a
  | some x =>
    simp only [Option.map_some, Option.some.injEq] at a b
    simp only [Option.map_some, Option.some.injEq, Bool.and_eq_true, decide_eq_true_eq]
    exact ⟨(nodupBits_sound a).1, b⟩

theorem tie : Tryz.prog.laidByTextLater tieL tieK true :=
  Program.laidByTextLater_by_run_h 400 8 tie_w tie_w2 tie_root tie_k tie_g tie_n tie_d tie_h1 tie_h2 tie_h3

theorem engineNil_row_tie : Rows.engineNilRow.laidByTextAt .later Tryz.pinned [.sentinel, .sentinel, .data, .data, .data, .data, .listed, .pinned, .data, .handle] true :=
  OpenClaim.laidByTextAt_pinned rfl rfl tie rfl rfl rfl rfl (fun y hy _e => by
    simp only [Rows.engineNilRow, List.zip_cons_cons, List.zip_nil_right, List.mem_cons, List.mem_nil_iff, or_false] at hy
    rcases hy with rfl | rfl | rfl | rfl | rfl | rfl | rfl | rfl | rfl | rfl
    · cases _e
    · cases _e
    · cases _e
    · cases _e
    · cases _e
    · cases _e
    · cases _e
    · exact ⟨pin_laid_unicode_utf8_first, by kernel_rfl⟩
    · cases _e
    · cases _e) fits1
end Go.Proofs.YthiaocbikmiciaaGreatDoor
