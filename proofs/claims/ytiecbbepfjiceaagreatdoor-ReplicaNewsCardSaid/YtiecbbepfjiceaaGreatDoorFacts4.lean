/-
  The closed facts of the row, part 4.
-/
import Derived.Test.YtiecbbepfjiceaaGreatDoorRows
import Derived.JoinedOf
import Derived.Test.YtiecbbepfjiceaaGreatDoorFacts1
import Derived.JoinedCond
namespace Go.Proofs.YtiecbbepfjiceaaGreatDoor
open Go
set_option maxRecDepth 100000
theorem j24 : (Tryz.checked.prog.stopsHeard) = true := by kernel_rfl
theorem j25 : (Tryz.checked.prog.mayEnter) = true := by kernel_rfl
theorem j26 : ((Rows.replicaNewsRow.lifted == Tryz.checked.prog.liftsFinal)) = true := by kernel_rfl
theorem j27 : ((Tryz.checked.prog.make == some Rows.replicaNewsRow.make)) = true := by kernel_rfl
theorem j28 : ((Rows.replicaNewsRow.kinds == (if Rows.replicaNewsRow.domain.isEmpty then [] else Tryz.f3.params.toList.map fun t => match Tryz.checked.prog.underlying t with | some (.int k) => some k | _ => none))) = true := by kernel_rfl
theorem j29 : ((Rows.replicaNewsRow.pinned == Rows.replicaNewsRow.pinnedBy)) = true := by kernel_rfl
theorem j30 : ((Rows.replicaNewsRow.veiled == (Tryz.f3.params.toList ++ SB.plain.varTypes Tryz.checked.prog ++ Tryz.f3.resultTypes.toList).any (Tryz.checked.prog.veiledRec ·))) = true := by kernel_rfl
theorem j31 : (Rows.replicaNewsRow.veiledFits Tryz.checked.prog Tryz.f3.params.toList (Tryz.f3.params.toList ++ SB.plain.varTypes Tryz.checked.prog ++ Tryz.f3.resultTypes.toList)) = true := by kernel_rfl
end Go.Proofs.YtiecbbepfjiceaaGreatDoor
