/-
  The small document comes out right: by the evaluator, in the kernel.
-/
import Derived.Test.YtiecbbepfjiceaaGreatDoorEnvA
set_option linter.unusedVariables false
set_option linter.unusedSimpArgs false
namespace Go.Proofs.YtiecbbepfjiceaaGreatDoor
open Go Go.Clean
theorem small_run : okTrue ((cbN EN 1000 4).run [] ⟨.leaf, 0⟩ ret) = true := by kernel_rfl
end Go.Proofs.YtiecbbepfjiceaaGreatDoor
