/-
  A memory and an input that fit: its closed facts.
-/
import Derived.Test.YtiecbbepfjiceaaGreatDoorCardA
set_option linter.unusedVariables false
set_option linter.unusedSimpArgs false
namespace Go.Proofs.YtiecbbepfjiceaaGreatDoor
open Go Go.ChangeShapes Go.WideShapes Go.ChangeAt Go.RowKit
set_option maxRecDepth 100000
theorem prog_eq : Tryz.checked.prog = Tryz.prog := rfl
theorem w0 : Tryz.prog.inits.idxOf? 3 = none := by kernel_rfl
theorem w1 (os : Os) : ((laidWorld os).forCall (fun _ _ => 0) ⟨#[], args0, []⟩).variablesRefB Tryz.prog = true := by kernel_rfl
theorem w2 (os : Os) : (((laidWorld os).forCall (fun _ _ => 0) ⟨#[], args0, []⟩).heap.toList.drop Tryz.prog.globals.size).take ((begin Tryz.prog (fun _ _ => 0) default).world.heap.size - Tryz.prog.globals.size) =
      (begin Tryz.prog (fun _ _ => 0) default).world.heap.toList.drop Tryz.prog.globals.size := by kernel_rfl
theorem w3 (os : Os) : Input.okWideB Tryz.prog ((laidWorld os).forCall (fun _ _ => 0) ⟨#[], args0, []⟩) 3 ⟨#[], args0, []⟩ = true := by kernel_rfl
end Go.Proofs.YtiecbbepfjiceaaGreatDoor
