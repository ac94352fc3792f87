/-
  The tie, its first facts.
-/
import Derived.Test.YtiecbbepfjiceaaGreatDoorTieL
namespace Go.Proofs.YtiecbbepfjiceaaGreatDoor
open Go
theorem t_hw : Tryz.prog.worded (varsWordLater true) = true := by kernel_rfl
theorem t_hw2 : Tryz.prog.worded (varsWordLater !true) = false := by kernel_rfl
theorem t_hroot : Tryz.prog.worded rootWordLater = true := by kernel_rfl
theorem t_hk : LL.map (fun x => Tryz.prog.kindOfLater x.1) = ([.data, .listed, .sentinel, .sentinel, .data, .data, .data] : List LaidKind).map some := by kernel_rfl
theorem t_hg : (Tryz.prog.funcNamed "gosem.cut.vars").isSome = true := by kernel_rfl
theorem t_hp : (LL.all fun x => x.2.handleName?.isNone) = true := by kernel_rfl
end Go.Proofs.YtiecbbepfjiceaaGreatDoor
