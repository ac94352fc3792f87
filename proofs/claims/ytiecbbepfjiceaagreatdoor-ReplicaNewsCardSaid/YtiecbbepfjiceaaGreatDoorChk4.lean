/-
  The code of part 4 is the program's.
-/
import Derived.Test.YtiecbbepfjiceaaGreatDoorProg
import Derived.Test.YtiecbbepfjiceaaGreatDoorLit2
import Derived.KernelRfl
set_option linter.unusedVariables false
set_option linter.unusedSimpArgs false
namespace Go.Proofs.YtiecbbepfjiceaaGreatDoor
open Go.Clean
theorem h108 : compFunc Tryz.prog ⟨261, 178, some (100, 58)⟩ 108 = some c108 := by kernel_rfl
theorem h119 : compFunc Tryz.prog ⟨261, 178, some (100, 58)⟩ 119 = some c119 := by kernel_rfl
theorem h121 : compFunc Tryz.prog ⟨261, 178, some (100, 58)⟩ 121 = some c121 := by kernel_rfl
theorem h123 : compFunc Tryz.prog ⟨261, 178, some (100, 58)⟩ 123 = some c123 := by kernel_rfl
theorem h124 : compFunc Tryz.prog ⟨261, 178, some (100, 58)⟩ 124 = some c124 := by kernel_rfl
theorem h127 : compFunc Tryz.prog ⟨261, 178, some (100, 58)⟩ 127 = some c127 := by kernel_rfl
theorem h128 : compFunc Tryz.prog ⟨261, 178, some (100, 58)⟩ 128 = some c128 := by kernel_rfl
theorem h129 : compFunc Tryz.prog ⟨261, 178, some (100, 58)⟩ 129 = some c129 := by kernel_rfl
theorem h130 : compFunc Tryz.prog ⟨261, 178, some (100, 58)⟩ 130 = some c130 := by kernel_rfl
theorem h131 : compFunc Tryz.prog ⟨261, 178, some (100, 58)⟩ 131 = some c131 := by kernel_rfl
theorem h132 : compFunc Tryz.prog ⟨261, 178, some (100, 58)⟩ 132 = some c132 := by kernel_rfl
theorem h134 : compFunc Tryz.prog ⟨261, 178, some (100, 58)⟩ 134 = some c134 := by kernel_rfl
theorem h135 : compFunc Tryz.prog ⟨261, 178, some (100, 58)⟩ 135 = some c135 := by kernel_rfl
theorem h136 : compFunc Tryz.prog ⟨261, 178, some (100, 58)⟩ 136 = some c136 := by kernel_rfl
theorem h137 : compFunc Tryz.prog ⟨261, 178, some (100, 58)⟩ 137 = some c137 := by kernel_rfl
theorem h139 : compFunc Tryz.prog ⟨261, 178, some (100, 58)⟩ 139 = some c139 := by kernel_rfl
theorem h143 : compFunc Tryz.prog ⟨261, 178, some (100, 58)⟩ 143 = some c143 := by kernel_rfl
theorem h144 : compFunc Tryz.prog ⟨261, 178, some (100, 58)⟩ 144 = some c144 := by kernel_rfl
theorem h157 : compFunc Tryz.prog ⟨261, 178, some (100, 58)⟩ 157 = some c157 := by kernel_rfl
theorem h158 : compFunc Tryz.prog ⟨261, 178, some (100, 58)⟩ 158 = some c158 := by kernel_rfl
theorem h159 : compFunc Tryz.prog ⟨261, 178, some (100, 58)⟩ 159 = some c159 := by kernel_rfl
theorem h160 : compFunc Tryz.prog ⟨261, 178, some (100, 58)⟩ 160 = some c160 := by kernel_rfl
theorem h161 : compFunc Tryz.prog ⟨261, 178, some (100, 58)⟩ 161 = some c161 := by kernel_rfl
theorem h162 : compFunc Tryz.prog ⟨261, 178, some (100, 58)⟩ 162 = some c162 := by kernel_rfl
end Go.Proofs.YtiecbbepfjiceaaGreatDoor
