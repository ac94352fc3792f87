/-
  The closed facts of the row, part 3.
-/
import Derived.Test.YtiecbbepfjiceaaGreatDoorRows
import Derived.JoinedOf
import Derived.Test.YtiecbbepfjiceaaGreatDoorFacts1
import Derived.JoinedCond
namespace Go.Proofs.YtiecbbepfjiceaaGreatDoor
open Go
set_option maxRecDepth 100000
theorem j16 : ((Rows.replicaNewsRow.loops == (Tryz.f3.params.toList ++ SB.plain.varTypes Tryz.checked.prog).any (Tryz.checked.prog.loopsFrom ·))) = true := by kernel_rfl
theorem j17 : ((Rows.replicaNewsRow.wideKeys == (Tryz.f3.params.toList ++ SB.plain.varTypes Tryz.checked.prog ++ Tryz.f3.resultTypes.toList).any (Tryz.checked.prog.wideKeysFrom ·))) = true := by kernel_rfl
theorem j18 : (SB.vars.all (Tryz.checked.prog.varReadable ·)) = true := by kernel_rfl
theorem j19 : (Tryz.f3.resultTypes.all (fun t => Tryz.checked.prog.readableRec t && decide (t < Tryz.checked.prog.types.size))) = true := by kernel_rfl
theorem j20 : ((Rows.replicaNewsRow.ifacesOut == Tryz.f3.resultTypes.toList.any (Tryz.checked.prog.ifacesRec ·))) = true := by kernel_rfl
theorem j21 : ((Rows.replicaNewsRow.loopsOut == Tryz.f3.resultTypes.toList.any (Tryz.checked.prog.loopsFrom ·))) = true := by kernel_rfl
theorem j22 : ((Rows.replicaNewsRow.plainKeys == Tryz.checked.prog.plainKeys)) = true := by kernel_rfl
theorem j23 : (Rows.replicaNewsRow.shortTexts.isNone) = true := by kernel_rfl
end Go.Proofs.YtiecbbepfjiceaaGreatDoor
