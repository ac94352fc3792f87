/-
  The code of part 1 is the program's.
  The code of part 2 is the program's.
  The code of part 3 is the program's.
-/
import Derived.Test.YtiecbbepfjiceaaGreatDoorProg
import Derived.Test.YtiecbbepfjiceaaGreatDoorLit2
import Derived.KernelRfl
set_option linter.unusedVariables false
set_option linter.unusedSimpArgs false
namespace Go.Proofs.YtiecbbepfjiceaaGreatDoor
open Go.Clean
theorem h3 : compFunc Tryz.prog ⟨261, 178, some (100, 58)⟩ 3 = some c3 := by kernel_rfl
theorem h4 : compFunc Tryz.prog ⟨261, 178, some (100, 58)⟩ 4 = some c4 := by kernel_rfl
theorem h5 : compFunc Tryz.prog ⟨261, 178, some (100, 58)⟩ 5 = some c5 := by kernel_rfl
theorem h6 : compFunc Tryz.prog ⟨261, 178, some (100, 58)⟩ 6 = some c6 := by kernel_rfl
theorem h7 : compFunc Tryz.prog ⟨261, 178, some (100, 58)⟩ 7 = some c7 := by kernel_rfl
theorem h8 : compFunc Tryz.prog ⟨261, 178, some (100, 58)⟩ 8 = some c8 := by kernel_rfl
theorem h9 : compFunc Tryz.prog ⟨261, 178, some (100, 58)⟩ 9 = some c9 := by kernel_rfl
theorem h10 : compFunc Tryz.prog ⟨261, 178, some (100, 58)⟩ 10 = some c10 := by kernel_rfl
theorem h11 : compFunc Tryz.prog ⟨261, 178, some (100, 58)⟩ 11 = some c11 := by kernel_rfl
theorem h12 : compFunc Tryz.prog ⟨261, 178, some (100, 58)⟩ 12 = some c12 := by kernel_rfl
theorem h13 : compFunc Tryz.prog ⟨261, 178, some (100, 58)⟩ 13 = some c13 := by kernel_rfl
theorem h14 : compFunc Tryz.prog ⟨261, 178, some (100, 58)⟩ 14 = some c14 := by kernel_rfl
theorem h15 : compFunc Tryz.prog ⟨261, 178, some (100, 58)⟩ 15 = some c15 := by kernel_rfl
theorem h16 : compFunc Tryz.prog ⟨261, 178, some (100, 58)⟩ 16 = some c16 := by kernel_rfl
theorem h17 : compFunc Tryz.prog ⟨261, 178, some (100, 58)⟩ 17 = some c17 := by kernel_rfl
theorem h18 : compFunc Tryz.prog ⟨261, 178, some (100, 58)⟩ 18 = some c18 := by kernel_rfl
theorem h19 : compFunc Tryz.prog ⟨261, 178, some (100, 58)⟩ 19 = some c19 := by kernel_rfl
theorem h20 : compFunc Tryz.prog ⟨261, 178, some (100, 58)⟩ 20 = some c20 := by kernel_rfl
theorem h21 : compFunc Tryz.prog ⟨261, 178, some (100, 58)⟩ 21 = some c21 := by kernel_rfl
theorem h22 : compFunc Tryz.prog ⟨261, 178, some (100, 58)⟩ 22 = some c22 := by kernel_rfl
theorem h24 : compFunc Tryz.prog ⟨261, 178, some (100, 58)⟩ 24 = some c24 := by kernel_rfl
theorem h25 : compFunc Tryz.prog ⟨261, 178, some (100, 58)⟩ 25 = some c25 := by kernel_rfl
theorem h26 : compFunc Tryz.prog ⟨261, 178, some (100, 58)⟩ 26 = some c26 := by kernel_rfl
theorem h27 : compFunc Tryz.prog ⟨261, 178, some (100, 58)⟩ 27 = some c27 := by kernel_rfl
end Go.Proofs.YtiecbbepfjiceaaGreatDoor
namespace Go.Proofs.YtiecbbepfjiceaaGreatDoor
open Go.Clean
theorem h28 : compFunc Tryz.prog ⟨261, 178, some (100, 58)⟩ 28 = some c28 := by kernel_rfl
theorem h29 : compFunc Tryz.prog ⟨261, 178, some (100, 58)⟩ 29 = some c29 := by kernel_rfl
theorem h30 : compFunc Tryz.prog ⟨261, 178, some (100, 58)⟩ 30 = some c30 := by kernel_rfl
theorem h31 : compFunc Tryz.prog ⟨261, 178, some (100, 58)⟩ 31 = some c31 := by kernel_rfl
theorem h32 : compFunc Tryz.prog ⟨261, 178, some (100, 58)⟩ 32 = some c32 := by kernel_rfl
theorem h33 : compFunc Tryz.prog ⟨261, 178, some (100, 58)⟩ 33 = some c33 := by kernel_rfl
theorem h34 : compFunc Tryz.prog ⟨261, 178, some (100, 58)⟩ 34 = some c34 := by kernel_rfl
theorem h35 : compFunc Tryz.prog ⟨261, 178, some (100, 58)⟩ 35 = some c35 := by kernel_rfl
theorem h41 : compFunc Tryz.prog ⟨261, 178, some (100, 58)⟩ 41 = some c41 := by kernel_rfl
theorem h42 : compFunc Tryz.prog ⟨261, 178, some (100, 58)⟩ 42 = some c42 := by kernel_rfl
theorem h44 : compFunc Tryz.prog ⟨261, 178, some (100, 58)⟩ 44 = some c44 := by kernel_rfl
theorem h45 : compFunc Tryz.prog ⟨261, 178, some (100, 58)⟩ 45 = some c45 := by kernel_rfl
theorem h47 : compFunc Tryz.prog ⟨261, 178, some (100, 58)⟩ 47 = some c47 := by kernel_rfl
theorem h48 : compFunc Tryz.prog ⟨261, 178, some (100, 58)⟩ 48 = some c48 := by kernel_rfl
theorem h49 : compFunc Tryz.prog ⟨261, 178, some (100, 58)⟩ 49 = some c49 := by kernel_rfl
theorem h50 : compFunc Tryz.prog ⟨261, 178, some (100, 58)⟩ 50 = some c50 := by kernel_rfl
theorem h51 : compFunc Tryz.prog ⟨261, 178, some (100, 58)⟩ 51 = some c51 := by kernel_rfl
theorem h52 : compFunc Tryz.prog ⟨261, 178, some (100, 58)⟩ 52 = some c52 := by kernel_rfl
theorem h54 : compFunc Tryz.prog ⟨261, 178, some (100, 58)⟩ 54 = some c54 := by kernel_rfl
theorem h55 : compFunc Tryz.prog ⟨261, 178, some (100, 58)⟩ 55 = some c55 := by kernel_rfl
theorem h56 : compFunc Tryz.prog ⟨261, 178, some (100, 58)⟩ 56 = some c56 := by kernel_rfl
theorem h57 : compFunc Tryz.prog ⟨261, 178, some (100, 58)⟩ 57 = some c57 := by kernel_rfl
theorem h58 : compFunc Tryz.prog ⟨261, 178, some (100, 58)⟩ 58 = some c58 := by kernel_rfl
theorem h59 : compFunc Tryz.prog ⟨261, 178, some (100, 58)⟩ 59 = some c59 := by kernel_rfl
end Go.Proofs.YtiecbbepfjiceaaGreatDoor
namespace Go.Proofs.YtiecbbepfjiceaaGreatDoor
open Go.Clean
theorem h60 : compFunc Tryz.prog ⟨261, 178, some (100, 58)⟩ 60 = some c60 := by kernel_rfl
theorem h61 : compFunc Tryz.prog ⟨261, 178, some (100, 58)⟩ 61 = some c61 := by kernel_rfl
theorem h67 : compFunc Tryz.prog ⟨261, 178, some (100, 58)⟩ 67 = some c67 := by kernel_rfl
theorem h68 : compFunc Tryz.prog ⟨261, 178, some (100, 58)⟩ 68 = some c68 := by kernel_rfl
theorem h76 : compFunc Tryz.prog ⟨261, 178, some (100, 58)⟩ 76 = some c76 := by kernel_rfl
theorem h77 : compFunc Tryz.prog ⟨261, 178, some (100, 58)⟩ 77 = some c77 := by kernel_rfl
theorem h80 : compFunc Tryz.prog ⟨261, 178, some (100, 58)⟩ 80 = some c80 := by kernel_rfl
theorem h82 : compFunc Tryz.prog ⟨261, 178, some (100, 58)⟩ 82 = some c82 := by kernel_rfl
theorem h84 : compFunc Tryz.prog ⟨261, 178, some (100, 58)⟩ 84 = some c84 := by kernel_rfl
theorem h86 : compFunc Tryz.prog ⟨261, 178, some (100, 58)⟩ 86 = some c86 := by kernel_rfl
theorem h87 : compFunc Tryz.prog ⟨261, 178, some (100, 58)⟩ 87 = some c87 := by kernel_rfl
theorem h88 : compFunc Tryz.prog ⟨261, 178, some (100, 58)⟩ 88 = some c88 := by kernel_rfl
theorem h89 : compFunc Tryz.prog ⟨261, 178, some (100, 58)⟩ 89 = some c89 := by kernel_rfl
theorem h90 : compFunc Tryz.prog ⟨261, 178, some (100, 58)⟩ 90 = some c90 := by kernel_rfl
theorem h91 : compFunc Tryz.prog ⟨261, 178, some (100, 58)⟩ 91 = some c91 := by kernel_rfl
theorem h92 : compFunc Tryz.prog ⟨261, 178, some (100, 58)⟩ 92 = some c92 := by kernel_rfl
theorem h93 : compFunc Tryz.prog ⟨261, 178, some (100, 58)⟩ 93 = some c93 := by kernel_rfl
theorem h96 : compFunc Tryz.prog ⟨261, 178, some (100, 58)⟩ 96 = some c96 := by kernel_rfl
theorem h97 : compFunc Tryz.prog ⟨261, 178, some (100, 58)⟩ 97 = some c97 := by kernel_rfl
theorem h99 : compFunc Tryz.prog ⟨261, 178, some (100, 58)⟩ 99 = some c99 := by kernel_rfl
theorem h102 : compFunc Tryz.prog ⟨261, 178, some (100, 58)⟩ 102 = some c102 := by kernel_rfl
theorem h103 : compFunc Tryz.prog ⟨261, 178, some (100, 58)⟩ 103 = some c103 := by kernel_rfl
theorem h104 : compFunc Tryz.prog ⟨261, 178, some (100, 58)⟩ 104 = some c104 := by kernel_rfl
theorem h105 : compFunc Tryz.prog ⟨261, 178, some (100, 58)⟩ 105 = some c105 := by kernel_rfl
end Go.Proofs.YtiecbbepfjiceaaGreatDoor
