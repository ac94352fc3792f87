/-
  The closed facts of the card.
-/
import Derived.Test.YtiecbbepfjiceaaGreatDoorCards
import Derived.SevenTiedAt
import Derived.KernelRfl
namespace Go.Proofs.YtiecbbepfjiceaaGreatDoor
open Go
set_option maxRecDepth 100000
theorem looks3 : true = Tryz.pinned.checked.prog.looks [] := by kernel_rfl
theorem wants3 : Tryz.pinned.checked.prog.wantsStandIn 3 = false := by kernel_rfl
theorem wfText : Rows.replicaNewsRow.wfByText (OpenSpec.ofChange Rows.replicaNewsSpec) = true := by kernel_rfl
theorem mainIs3 : Tryz.pinned.checked.prog.mainIs = some (true, "462f51d350d4c417980084da6fc8cbc8e4bde5c3f3440412420cecca7a6257f1".toList) := by kernel_rfl
theorem goes_false {P : Program} (h : ∀ fn ∈ P.funcs.toList, fn.goes = false) (f : FuncId) : P.goes f = false := by
  have h1 : ∀ g : Nat, (P.funcs[g]?).any Func.goes = false := by
    intro g
    cases e : P.funcs[g]? with
    | none => rfl
    | some fn =>
      have : fn ∈ P.funcs.toList := by
        have := Array.mem_of_getElem? e
        exact this.val
      simpa using h fn this
  have h2 : P.funcs.any Func.goes = false := by
    rw [Bool.eq_false_iff]
    intro e
    rw [Array.any_eq_true] at e
    obtain ⟨i, hi, e⟩ := e
    rw [h _ (by simp)] at e
    cases e
  unfold Program.goes
  rw [h2]
  simp only [h1, Bool.and_false, Bool.or_false]
  simp
theorem all_parts {α : Type} {q : α → Bool} {l : List α} (n : Nat) (h1 : (l.take n).all q = true) (h2 : (l.drop n).all q = true) : l.all q = true := by
  rw [← List.take_append_drop n l, List.all_append, h1, h2]; rfl
theorem g1 : (Tryz.checked.prog.funcs.toList.take 128).all (fun fn => !fn.goes) = true := by kernel_rfl
theorem g2 : ((Tryz.checked.prog.funcs.toList.drop 128).take 128).all (fun fn => !fn.goes) = true := by kernel_rfl
theorem g3 : (((Tryz.checked.prog.funcs.toList.drop 128).drop 128).take 128).all (fun fn => !fn.goes) = true := by kernel_rfl
theorem g4 : (((Tryz.checked.prog.funcs.toList.drop 128).drop 128).drop 128).all (fun fn => !fn.goes) = true := by kernel_rfl
theorem goes_all : Tryz.checked.prog.funcs.toList.all (fun fn => !fn.goes) = true := all_parts 128 g1 (all_parts 128 g2 (all_parts 128 g3 g4))
theorem goesP {P : Program} (hP : P = Tryz.checked.prog) : false = Rows.replicaNewsRow.goesBy P := by
  have h : ∀ f, P.goes f = false := goes_false fun fn hfn => by
    have := List.all_eq_true.1 goes_all fn (by rw [← hP]; exact hfn)
    simpa using this
  show false = ((P.funcNamed "straightedge/straightedgelaw32.ReplicaNews").any P.goes || false)
  cases P.funcNamed "straightedge/straightedgelaw32.ReplicaNews" with
  | none => rfl
  | some f => simp [h f]
end Go.Proofs.YtiecbbepfjiceaaGreatDoor
