/-
  The run of the text that lays the variables comes to that memory.
-/
import Derived.Test.YtiecbbepfjiceaaGreatDoorLaid
namespace Go.Proofs.YtiecbbepfjiceaaGreatDoor
open Go
theorem vars_run : ∀ os tape, (varsWorld Tryz.prog 400 (varsId Tryz.prog) os tape).memory = (laidWorld os).memory := fun _ _ => by kernel_rfl
end Go.Proofs.YtiecbbepfjiceaaGreatDoor
