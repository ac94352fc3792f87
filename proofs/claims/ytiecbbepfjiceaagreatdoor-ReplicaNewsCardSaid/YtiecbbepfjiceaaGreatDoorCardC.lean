/-
  The row: the call returns, in every state that fits.
-/
import Derived.Test.YtiecbbepfjiceaaGreatDoorCardB
set_option linter.unusedVariables false
set_option linter.unusedSimpArgs false
namespace Go.Proofs.YtiecbbepfjiceaaGreatDoor
open Go Go.ChangeShapes Go.WideShapes Go.ChangeAt Go.RowKit
set_option maxRecDepth 100000
theorem laid_metH (os : Os) : laidMetH Tryz.prog Rows.replicaNewsRow.laid ((laidWorld os).forCall (fun _ _ => 0) ⟨#[], args0, []⟩).memory := by
  show laidMetH Tryz.prog LL ((laidWorld os).forCall (fun _ _ => 0) ⟨#[], args0, []⟩).memory
  rw [MakeChecks.laidMetH_plain _ _ _ t_hp]; exact laid_met os
theorem w4 (os : Os) {H : Type} (enc : TypeId × Value → H) : (OpenSpec.ofChange Rows.replicaNewsSpec).bare.sizedB enc Tryz.prog Tryz.f3 false ((laidWorld os).forCall (fun _ _ => 0) ⟨#[], args0, []⟩).memory args0 8 = true := by kernel_rfl
theorem pre0 (os : Os) {H : Type} (enc : TypeId × Value → H) : (OpenSpec.ofChange Rows.replicaNewsSpec).preRow enc Tryz.prog Tryz.f3 Rows.replicaNewsRow.domain false Rows.replicaNewsRow.laid ((laidWorld os).forCall (fun _ _ => 0) ⟨#[], args0, []⟩).memory args0 := by
  obtain ⟨places, hx⟩ := reads os enc
  exact OpenSpec.preRow_of_cond 8 hx rfl (fun k hk => by cases hk) (w4 os enc) (laid_metH os)
theorem contractP {P : Program} (hP : P = Tryz.prog) (H : Type) (enc : TypeId × Value → H) (F : Stop.Interp) (W : World) (base : Nat) (args : Array Value) (ds gs : List (DataW H)) (before : List MemPlace)
    (hval : ∀ (j : Nat) t v, Tryz.f3.params[j]? = some t → args[j]? = some v → Value.okWide P W .any base t v)
    (hW : DataW.Whole enc P Tryz.f3.params.toList (OpenSpec.ofChange Rows.replicaNewsSpec).vars false W args.toList ds gs before) (hL : laidMetH P Rows.replicaNewsRow.laid W) :
    Calls P 3 args W fun e W' => ∃ v, e = .returned v ∧ ((OpenSpec.ofChange Rows.replicaNewsSpec).at F).post enc P Tryz.f3 false true false false W args v W' := by
  subst hP
  exact contract H enc W base args ds gs before hval hW hL
theorem liftedP {C : Checked} (hC : C.prog = Tryz.prog) (os : Os) (started : os.Started) (H : Type) (enc : TypeId × Value → H) (F : Stop.Interp) :
    ReturnsInHanded {} C os 3 .any ((OpenSpec.ofChange Rows.replicaNewsSpec).preRow enc C.prog Tryz.f3 Rows.replicaNewsRow.domain false Rows.replicaNewsRow.laid) (((OpenSpec.ofChange Rows.replicaNewsSpec).at F).post enc C.prog Tryz.f3 false true false false) := by
  refine returnsInHanded_of_row (C := C) (s := OpenSpec.ofChange Rows.replicaNewsSpec) (by rw [hC]; exact own) started (by rw [hC]; exact w0) (by rw [hC]; exact Tryz.func3) ?_ ?_
  · exact witness_row_atRef (enc := enc) (C := C) false (laidWorld os) args0 rfl (by rw [hC]; exact w1 os) (by rw [hC]; exact w2 os) (by rw [hC]; exact w3 os) (by rw [hC]; exact pre0 os enc)
  · intro W base args ds gs before hval hW _ _ _ hL _ _
    exact contractP hC H enc F W base args ds gs before hval hW hL
end Go.Proofs.YtiecbbepfjiceaaGreatDoor
