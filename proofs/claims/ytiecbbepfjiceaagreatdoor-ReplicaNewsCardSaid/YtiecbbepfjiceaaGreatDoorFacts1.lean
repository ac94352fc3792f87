/-
  The closed facts of the row, part 1.
-/
import Derived.Test.YtiecbbepfjiceaaGreatDoorRows
import Derived.JoinedOf
import Derived.JoinedCond
namespace Go.Proofs.YtiecbbepfjiceaaGreatDoor
open Go
set_option maxRecDepth 100000
abbrev SB : ChangeSpec := (OpenSpec.ofChange Rows.replicaNewsSpec).bare
theorem j0 : (Rows.replicaNewsRow.wf (OpenSpec.ofChange SB)) = true := by kernel_rfl
theorem j1 : (laidOutB Tryz.checked.prog) = true := by kernel_rfl
theorem j2 : (mapsRowed Tryz.checked.prog) = true := by kernel_rfl
theorem j3 : (Tryz.f3.params.all (Tryz.checked.prog.readableRec ·)) = true := by kernel_rfl
theorem j4 : (namedTie Tryz.checked.prog Rows.replicaNewsRow.named SB.vars) = true := by kernel_rfl
theorem j5 : ((Rows.replicaNewsRow.stops == [])) = true := by kernel_rfl
theorem j6 : ((Tryz.checked.prog.stops == [])) = true := by kernel_rfl
theorem j7 : ((Rows.replicaNewsRow.knobs == [])) = true := by kernel_rfl
end Go.Proofs.YtiecbbepfjiceaaGreatDoor
