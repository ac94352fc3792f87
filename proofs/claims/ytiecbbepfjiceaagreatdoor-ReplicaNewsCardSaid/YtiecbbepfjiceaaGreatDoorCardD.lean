/-
  The row's statement.
-/
import Derived.Test.YtiecbbepfjiceaaGreatDoorCardC
import Derived.Test.YtiecbbepfjiceaaGreatDoorFacts1
import Derived.Test.YtiecbbepfjiceaaGreatDoorFacts2
import Derived.Test.YtiecbbepfjiceaaGreatDoorFacts3
import Derived.Test.YtiecbbepfjiceaaGreatDoorFacts4
set_option linter.unusedVariables false
set_option linter.unusedSimpArgs false
namespace Go.Proofs.YtiecbbepfjiceaaGreatDoor
open Go Go.ChangeShapes Go.WideShapes Go.ChangeAt Go.RowKit
set_option maxRecDepth 100000
theorem band {a b : Bool} (ha : a = true) (hb : b = true) : (a && b) = true := by rw [ha, hb]; rfl
theorem lifted (os : Os) (started : os.Started) (H : Type) (enc : TypeId × Value → H) (F : Stop.Interp) :
    ReturnsInHanded {} Tryz.checked os 3 .any ((OpenSpec.ofChange Rows.replicaNewsSpec).preRow enc Tryz.checked.prog Tryz.f3 Rows.replicaNewsRow.domain false Rows.replicaNewsRow.laid) (((OpenSpec.ofChange Rows.replicaNewsSpec).at F).post enc Tryz.checked.prog Tryz.f3 false true false false) := liftedP prog_eq os started H enc F
theorem named3 : Tryz.checked.prog.funcNamed "straightedge/straightedgelaw32.ReplicaNews" = some 3 := by kernel_rfl
theorem closed3 : joinedFacts Tryz.checked.prog 3 Tryz.f3 SB Rows.replicaNewsRow = true := (band (band (band (band (band (band (band (band (band (band (band (band (band (band (band (band (band (band (band (band (band (band (band (band (band (band (band (band (band (band (band j0 j1) j2) j3) j4) j5) j6) j7) j8) j9) j10) j11) j12) j13) j14) j15) j16) j17) j18) j19) j20) j21) j22) j23) j24) j25) j26) j27) j28) j29) j30) j31)
theorem inst3 : Tryz.f3.isInstance Tryz.checked.prog Rows.replicaNewsRow.origin Rows.replicaNewsRow.targs := of_decide_eq_true (by kernel_rfl)
theorem wrap3 : Tryz.f3.isWrapper Tryz.checked.prog Rows.replicaNewsRow.wrapper Rows.replicaNewsRow.mainSum := by
  unfold Func.isWrapper; first | (rw [if_pos (by decide +kernel)]; kernel_rfl) | (rw [if_neg (by decide +kernel)]; exact ⟨rfl, rfl⟩)
theorem said : Rows.ReplicaNewsSaid :=
  OpenClaim.holds_of_cond (p := Tryz.pinned) (c := Rows.replicaNewsRow) 3 Tryz.f3 rfl rfl rfl rfl rfl rfl rfl ⟨rfl, rfl, rfl, rfl, rfl⟩ rfl rfl rfl rfl rfl named3 Tryz.func3 closed3 inst3 wrap3
    (fun os started H enc _ F => by rw [OpenClaim.pre_eq_preRow]; exact lifted os started H enc F)
end Go.Proofs.YtiecbbepfjiceaaGreatDoor
