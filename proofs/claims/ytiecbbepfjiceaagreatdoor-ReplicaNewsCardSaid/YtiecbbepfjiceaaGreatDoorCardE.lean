/-
  ReplicaNews: for every two integers, New accepts authors and budgets within the limits only, and a new replica is empty; tied to the program's text.
  Conditions: the listed package-level variables (strings.asciiSpace and six more) read as the program's text lays them; the card ties that to the pruned copy of the program; nothing is said of the project's other packages.
-/
import Derived.Test.YtiecbbepfjiceaaGreatDoorCardD
import Derived.Test.YtiecbbepfjiceaaGreatDoorCardF
namespace Go.Proofs.YtiecbbepfjiceaaGreatDoor
open Go
set_option maxRecDepth 100000
theorem named3' : Tryz.pinned.checked.prog.funcNamed "straightedge/straightedgelaw32.ReplicaNews" = some 3 := named3
theorem func3' : Tryz.pinned.checked.prog.funcs[3]? = some Tryz.f3 := Tryz.func3
theorem plain (f : FuncId) (fn : Func) (hf : Tryz.pinned.checked.prog.funcNamed "straightedge/straightedgelaw32.ReplicaNews" = some f) (hfn : Tryz.pinned.checked.prog.funcs[f]? = some fn) :
    true = Tryz.pinned.checked.prog.looks [] ∧ ∀ (j : Nat) t, fn.params[j]? = some t → Tryz.pinned.checked.prog.wantsStandIn t = false := by
  have e1 : f = 3 := (Option.some.inj (named3'.symm.trans hf)).symm
  subst e1
  have e2 : fn = Tryz.f3 := (Option.some.inj (func3'.symm.trans hfn)).symm
  subst e2
  refine ⟨looks3, fun j t ht => ?_⟩
  rw [Tryz.params3] at ht
  obtain rfl : t = 3 := by simpa using Array.mem_of_getElem? ht
  exact wants3
/-- THE CARD. -/
theorem replicaNews_holds : Rows.ReplicaNewsCardSaid :=
  Claim7.holds_tied_plain_at .later [] [.data, .listed, .sentinel, .sentinel, .data, .data, .data] true (true, "462f51d350d4c417980084da6fc8cbc8e4bde5c3f3440412420cecca7a6257f1") true said (fun _ h => by cases h) wfText (fun _ h => by cases h) row_tie rfl ⟨rfl, rfl⟩ mainIs3 rfl plain (goesP rfl)
end Go.Proofs.YtiecbbepfjiceaaGreatDoor
