/-
  The tie: the run ends.
-/
import Derived.Test.YtiecbbepfjiceaaGreatDoorTieL
namespace Go.Proofs.YtiecbbepfjiceaaGreatDoor
open Go
theorem t_hd : ∀ os tape, varsDone Tryz.prog 400 (varsId Tryz.prog) os tape = true := fun _ _ => by kernel_rfl
end Go.Proofs.YtiecbbepfjiceaaGreatDoor
