/-
  What syntax.Parse defers does nothing where Parse returns.
-/
import Derived.Test.YtiecbbepfjiceaaGreatDoorProg
import Derived.Test.YtiecbbepfjiceaaGreatDoorCleanF
import Derived.WalkKit
import Derived.Recover
set_option linter.unusedVariables false
set_option linter.unusedSimpArgs false
namespace Go.Proofs.YtiecbbepfjiceaaGreatDoor
open Go Go.RowKit Go.Clean
theorem defer_idle (args : Array Value) (w : World) : CallsD Tryz.prog 122 args .returning w fun e u' w' => (∃ v, e = .returned v) ∧ u' = .returning ∧ w' = w := by
  have hnil : ∀ w : World, (binOp BinOp.neq 20 .nilIface .nilIface).run Tryz.prog w = .ok (.bool false) w := fun _ => by kernel_rfl
  refine callsD_of_wpS Tryz.func122 rfl fun c₀ cs hu => ?_
  have hT : 17 ≤ (args ++ Array.replicate (Tryz.f122.ntmps - args.size) undef).size := by
    rw [Tryz.ntmps122]; simp; omega
  generalize args ++ Array.replicate (Tryz.f122.ntmps - args.size) undef = T at hT
  have h2 : 2 < T.size := by omega
  have h5 : 5 < T.size := by omega
  have h6 : 6 < T.size := by omega
  have h7 : 7 < T.size := by omega
  apply wpS_seq
  apply wpS_region
  simp [wpOpsS, go_sem, recoverD, hu, Exit.thenS]
  apply wpS_seq
  apply wpS_region
  simp [wpOpsS, go_sem, Exit.thenS, h2, h5, h6, h7, hnil]
  refine wpS_cond (t := false) (by simp [Act.eval, h2, h5, h6, h7]) ?_
  simp only [Bool.false_eq_true, if_false]
  refine wpS_of_wp (wp_skip ?_)
  cases c₀
  simp_all [bodyPostS, results, Tryz.results122, Exit.thenS]
theorem defs_ok : DefsOk Tryz.prog (fun f => Nat.beq f 122) := by
  intro f hf
  have e := Nat.eq_of_beq_eq_true hf
  subst e
  exact ⟨⟨Tryz.f122, _, Tryz.func122, by kernel_rfl, rfl⟩, fun args w => defer_idle args w⟩
end Go.Proofs.YtiecbbepfjiceaaGreatDoor
