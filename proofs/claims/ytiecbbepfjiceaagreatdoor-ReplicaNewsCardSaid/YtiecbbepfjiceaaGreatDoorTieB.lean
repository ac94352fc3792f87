/-
  The tie: the names.
-/
import Derived.Test.YtiecbbepfjiceaaGreatDoorTieL
namespace Go.Proofs.YtiecbbepfjiceaaGreatDoor
open Go
theorem t_hn : varsNamedLaterB Tryz.prog (varsId Tryz.prog) LL = true := by kernel_rfl
end Go.Proofs.YtiecbbepfjiceaaGreatDoor
