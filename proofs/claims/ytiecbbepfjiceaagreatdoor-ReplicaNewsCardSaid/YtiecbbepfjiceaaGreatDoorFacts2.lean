/-
  The closed facts of the row, part 2.
-/
import Derived.Test.YtiecbbepfjiceaaGreatDoorRows
import Derived.JoinedOf
import Derived.Test.YtiecbbepfjiceaaGreatDoorFacts1
import Derived.JoinedCond
namespace Go.Proofs.YtiecbbepfjiceaaGreatDoor
open Go
set_option maxRecDepth 100000
theorem j8 : ((Tryz.checked.prog.stopKnobs == [])) = true := by kernel_rfl
theorem j9 : ((Rows.replicaNewsRow.inPlace == Tryz.checked.prog.inPlace 3)) = true := by kernel_rfl
theorem j10 : ((Rows.replicaNewsRow.unfollowed == Tryz.checked.prog.unfollowed 3)) = true := by kernel_rfl
theorem j11 : ((Rows.replicaNewsRow.recurses == Tryz.checked.prog.recurses 3)) = true := by kernel_rfl
theorem j12 : ((Rows.replicaNewsRow.named == Tryz.checked.prog.varsNamed 3)) = true := by kernel_rfl
theorem j13 : ((Rows.replicaNewsRow.maps == (Tryz.f3.params.toList ++ SB.plain.varTypes Tryz.checked.prog).any (Tryz.checked.prog.mapsRec ·))) = true := by kernel_rfl
theorem j14 : ((Rows.replicaNewsRow.ifaces == (Tryz.f3.params.toList ++ SB.plain.varTypes Tryz.checked.prog).any (Tryz.checked.prog.ifacesRec ·))) = true := by kernel_rfl
theorem j15 : ((Rows.replicaNewsRow.mapsOut == Tryz.checked.prog.mapsAmong Tryz.f3.resultTypes.toList)) = true := by kernel_rfl
end Go.Proofs.YtiecbbepfjiceaaGreatDoor
