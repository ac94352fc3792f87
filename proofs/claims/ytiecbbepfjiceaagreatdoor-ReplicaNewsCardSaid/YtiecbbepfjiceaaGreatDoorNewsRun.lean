/-
  The law, by the evaluator in the kernel, in five cases of its two numbers.
-/
import Derived.Test.YtiecbbepfjiceaaGreatDoorEnvA
set_option linter.unusedVariables false
set_option linter.unusedSimpArgs false
namespace Go.Proofs.YtiecbbepfjiceaaGreatDoor
open Go Go.Clean
noncomputable def newsRun (a b c d : Int) : Option (AV × H) := (cbN EN2 1000 3).run [.itok 0 a b, .itok 1 c d] ⟨.leaf, 0⟩ ret
theorem news1 : okTrue (newsRun (.negSucc 9223372036854775807) (.ofNat 0) (.negSucc 9223372036854775807) (.ofNat 9223372036854775807)) = true := by kernel_rfl
theorem news2 : okTrue (newsRun (.ofNat 13) (.ofNat 9223372036854775807) (.negSucc 9223372036854775807) (.ofNat 9223372036854775807)) = true := by kernel_rfl
theorem news3 : okTrue (newsRun (.ofNat 1) (.ofNat 12) (.negSucc 9223372036854775807) (.ofNat 0)) = true := by kernel_rfl
theorem news4 : okTrue (newsRun (.ofNat 1) (.ofNat 12) (.ofNat 4097) (.ofNat 9223372036854775807)) = true := by kernel_rfl
theorem news5 : okTrue (newsRun (.ofNat 1) (.ofNat 12) (.ofNat 1) (.ofNat 4096)) = true := by kernel_rfl
end Go.Proofs.YtiecbbepfjiceaaGreatDoor
