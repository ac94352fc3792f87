/-
  Towards ReplicaNews: for every two integers, New accepts authors and budgets within the limits only, and a new replica is empty; tied to the program's text.
  Conditions: the listed package-level variables (strings.asciiSpace and six more) read as the program's text lays them; the card ties that to the pruned copy of the program; nothing is said of the project's other packages.
-/
import Derived.Test.YtiecbbepfjiceaaGreatDoorCards
import Derived.Test.YtiecbbepfjiceaaGreatDoorLaw
import Derived.Test.YtiecbbepfjiceaaGreatDoorTieA
import Derived.Test.YtiecbbepfjiceaaGreatDoorTieB
import Derived.Test.YtiecbbepfjiceaaGreatDoorTieC
import Derived.Test.YtiecbbepfjiceaaGreatDoorTieD
import Derived.SevenTiedAt
import Derived.WalkKit
import Derived.ProofKit
import Derived.OpenShut
import Derived.Deep.DeepHandedRow
import Derived.Deep.DeepWitnessRowRef
set_option linter.unusedVariables false
set_option linter.unusedSimpArgs false
namespace Go.Proofs.YtiecbbepfjiceaaGreatDoor
open Go Go.ChangeShapes Go.WideShapes Go.ChangeAt Go.RowKit
set_option maxRecDepth 100000

/-! ### the tie -/
theorem tie_of_met {P : Program} {laid : List (String × DataW Unit)} {kinds : List LaidKind} {tests : Bool} (n : Nat)
    (hw : P.worded (varsWordLater tests) = true) (hw' : P.worded (varsWordLater !tests) = false) (hroot : P.worded rootWordLater = true) (hk : laid.map (fun x => P.kindOfLater x.1) = kinds.map some)
    (hg : (P.funcNamed "gosem.cut.vars").isSome = true)
    (hn : varsNamedLaterB P (varsId P) laid = true)
    (hd : ∀ os tape, varsDone P n (varsId P) os tape = true)
    (hm : ∀ os tape, laidMet P laid (varsWorld P n (varsId P) os tape).memory)
    (hp : (laid.all fun x => x.2.handleName?.isNone) = true) : P.laidByTextLater laid kinds tests := by
  unfold varsNamedLaterB at hn
  cases hc : (P.funcs[varsId P]?).bind (·.body) with
  | none => simp [hc] at hn
  | some code =>
   cases hs : code.laysInOrder [] with
   | none => simp [hc, hs] at hn
   | some stored =>
    simp only [hc, hs, Bool.and_eq_true] at hn
    refine ⟨⟨hw, hw', hroot, hk⟩, varsId P, code, stored, varsId_spec hg, hc, ⟨hs, hn.1.1, hn.1.2⟩, hn.2, fun os tape _ => ?_⟩
    have d := hd os tape
    have m := hm os tape
    unfold varsDone at d
    unfold varsWorld at m
    cases hr : runN P n (Machine.entering P (World.unlaid P os) tape (varsId P) ⟨#[], #[], []⟩) with
    | next mm => simp [hr] at d
    | ended o w =>
      cases o with
      | done v => simp only [hr] at m; exact ⟨n, v, w, hr, by rw [MakeChecks.laidMetH_plain _ _ _ hp]; exact m⟩
      | _ => simp [hr] at d
theorem met_run (os : Os) (tape : Tape) : laidMet Tryz.prog LL (varsWorld Tryz.prog 400 (varsId Tryz.prog) os tape).memory := by
  rw [vars_run]; exact laid_met0 os
theorem noOwnUnsafe : Tryz.pinned.checked.prog.headLifts.contains "ownunsafe" = false := by kernel_rfl
theorem tie : Tryz.prog.laidByTextLater LL [.data, .listed, .sentinel, .sentinel, .data, .data, .data] true :=
  tie_of_met 400 t_hw t_hw2 t_hroot t_hk t_hg t_hn t_hd met_run t_hp
theorem row_tie : Rows.replicaNewsRow.laidByTextAt .later Tryz.pinned [.data, .listed, .sentinel, .sentinel, .data, .data, .data] true :=
  OpenClaim.laidByTextAt_later rfl rfl tie noOwnUnsafe

/-! ### the contract -/
theorem own : ownKnob Tryz.prog.godebug = none := by kernel_rfl
theorem post_plain {H : Type} {enc : TypeId × Value → H} {P : Program} {f : Func} {s : ChangeSpec} {apart fresh handsOn : Bool} {W W' : World} {args : Array Value} {v : Value} {ds gs : List (DataW H)} {before pa pv : List MemPlace}
    (hW : DataW.Whole enc P f.params.toList s.vars apart W args.toList ds gs before)
    (hres : ∀ (b : Nat) (sp : Nat → Bool) (hd : Bool), DataW.TrodAll enc P W' b sp hd f.resultTypes.toList (v.resultList f.resultTypes.size) (s.fn H (ds ++ gs)).results [])
    (hargs : ∀ sp : Nat → Bool, DataW.TrodAll enc P W' 0 sp true f.params.toList args.toList (s.fn H (ds ++ gs)).args pa)
    (hvars : ∀ sp : Nat → Bool, DataW.TrodVars enc P W' sp s.vars (s.fn H (ds ++ gs)).vars pv)
    (hk : W.keptBut W' (fun _ => False)) : s.post enc P f apart fresh handsOn false W args v W' :=
  ⟨ds, gs, before, [], pa, pv, hW, hres _ _ _, hargs _, hvars _, World.keptBut_mono (fun _ h => h.elim) hk, fun h => by cases h⟩
theorem kept_but {W w' : World} (h : Kept W w') : W.keptBut w' (fun _ => False) := by
  refine ⟨h.2.1, h.2.2, fun i hi => ?_⟩
  rw [h.1 i hi]
  cases W.heap[i]? with
  | none => rfl
  | some o => cases o <;> first | exact ⟨rfl, rfl, rfl, fun _ _ => rfl⟩ | exact .inr ⟨rfl, rfl⟩ | rfl

theorem wf_bounds {n : Int} (h : (Lit.int .i64 n).wf = true) : -9223372036854775808 ≤ n ∧ n ≤ 9223372036854775807 := by
  simp only [Lit.wf, Bool.and_eq_true, decide_eq_true_eq] at h
  exact h

theorem contract (H : Type) (enc : TypeId × Value → H) (W : World) (base : Nat) (args : Array Value) (ds gs : List (DataW H)) (before : List MemPlace)
    (hval : ∀ (j : Nat) t v, Tryz.f3.params[j]? = some t → args[j]? = some v → Value.okWide Tryz.prog W .any base t v)
    (hW : DataW.Whole enc Tryz.prog Tryz.f3.params.toList Rows.replicaNewsSpec.vars false W args.toList ds gs before) (hL : laidMetH Tryz.prog Rows.replicaNewsRow.laid W) :
    Calls Tryz.prog 3 args W fun e W' => ∃ v, e = .returned v ∧ Rows.replicaNewsSpec.post enc Tryz.prog Tryz.f3 false true false false W args v W' := by
  have hW' := hW
  obtain ⟨p, q, hA0, hV, rfl, hfz, hnd⟩ := hW
  have hA : DataW.TrodAll enc Tryz.prog W 0 (fun _ => true) true Tryz.f3.params.toList args.toList ds p := hA0
  rw [Tryz.params3] at hA hval
  obtain ⟨v0, vs0, d0, ds0, p0, q0, hargs, rfl, rfl, h0, r0⟩ := trodAll_cons hA
  obtain ⟨v1, vs1, d1, ds1, p1, q1, hargs1, rfl, rfl, h1, r1⟩ := trodAll_cons r0
  obtain ⟨rfl, rfl, rfl⟩ := trodAll_nil r1
  obtain rfl : args = #[v0, v1] := by cases args; simp_all
  obtain ⟨rfl, rfl⟩ := trodVars_none hV
  obtain ⟨a, rfl, rfl, rfl, wa⟩ := open_int Tryz.underlying3 (hval 0 3 v0 rfl rfl) h0
  obtain ⟨b, rfl, rfl, rfl, wb⟩ := open_int Tryz.underlying3 (hval 1 3 v1 rfl rfl) h1
  clear hA0
  have hm : laidMet Tryz.prog LL W := by
    rw [← MakeChecks.laidMetH_plain _ _ _ t_hp]; exact hL
  refine (law (laid_at hm) (wf_bounds wa).1 (wf_bounds wa).2 (wf_bounds wb).1 (wf_bounds wb).2).mono fun e W' ⟨he, hk⟩ => ?_
  subst he
  refine ⟨_, rfl, post_plain (pa := []) (pv := []) hW' (fun _ _ _ => ?_) (fun _ => ?_) (fun _ => rfl) (kept_but hk)⟩
  · exact trodAll_cons_mk (shut_bool Tryz.underlying4 _) trodAll_mk0
  · exact trodAll_cons_mk (shut_int Tryz.underlying3 wa) (trodAll_cons_mk (shut_int Tryz.underlying3 wb) trodAll_mk0)

/-! ### the row -/
abbrev args0 : Array Value := #[.int .i64 1, .int .i64 1]
theorem mem0 (os : Os) : ((laidWorld os).forCall (fun _ _ => 0) ⟨#[], args0, []⟩).memory = (laidWorld os).memory := by
  simp [World.forCall, World.memory, Input.heap]
theorem laid_met (os : Os) : laidMet Tryz.prog Rows.replicaNewsRow.laid ((laidWorld os).forCall (fun _ _ => 0) ⟨#[], args0, []⟩).memory := by
  rw [mem0]; exact laid_met0 os
theorem reads (os : Os) {H : Type} (enc : TypeId × Value → H) : ∃ places, DataW.whole enc Tryz.prog ((laidWorld os).forCall (fun _ _ => 0) ⟨#[], args0, []⟩).memory Tryz.f3.params.toList Rows.replicaNewsSpec.vars false args0.toList 8 = some ([.lit (.int .i64 1), .lit (.int .i64 1)], [], places) :=
  ⟨[], by kernel_rfl⟩
end Go.Proofs.YtiecbbepfjiceaaGreatDoor
