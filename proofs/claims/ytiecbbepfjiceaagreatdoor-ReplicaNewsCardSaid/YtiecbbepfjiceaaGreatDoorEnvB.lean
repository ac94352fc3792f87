/-
  The evaluator at this program: its table of functions, its rules, the package-level variable that it reads.
-/
import Derived.Test.YtiecbbepfjiceaaGreatDoorChk1
import Derived.Test.YtiecbbepfjiceaaGreatDoorChk4
import Derived.Test.YtiecbbepfjiceaaGreatDoorChk5
import Derived.Test.YtiecbbepfjiceaaGreatDoorEnvA
import Derived.Test.YtiecbbepfjiceaaGreatDoorInsB
import Derived.Test.YtiecbbepfjiceaaGreatDoorDef
set_option linter.unusedVariables false
set_option linter.unusedSimpArgs false
namespace Go.Proofs.YtiecbbepfjiceaaGreatDoor
open Go Go.Clean
set_option maxRecDepth 100000

theorem mixed : Tryz.prog.follows .mixedOrders = true := by kernel_rfl

def Good (l : List (Nat × CFunc)) : Prop := ∀ x ∈ l, compFunc Tryz.prog IX x.1 = some x.2
theorem good_nil : Good [] := by intro x h; cases h
theorem good_cons {f : Nat} {c : CFunc} {l : List (Nat × CFunc)} (h : compFunc Tryz.prog IX f = some c) (hl : Good l) : Good ((f, c) :: l) := by
  intro x hx
  cases hx with
  | head => exact h
  | tail _ hx => exact hl x hx
theorem table_good : Good table := good_cons h3 <| good_cons h4 <| good_cons h5 <| good_cons h6 <| good_cons h7 <| good_cons h8 <| good_cons h9 <| good_cons h10 <| good_cons h11 <| good_cons h12 <| good_cons h13 <| good_cons h14 <| good_cons h15 <| good_cons h16 <| good_cons h17 <| good_cons h18 <| good_cons h19 <| good_cons h20 <| good_cons h21 <| good_cons h22 <| good_cons h24 <| good_cons h25 <| good_cons h26 <| good_cons h27 <| good_cons h28 <| good_cons h29 <| good_cons h30 <| good_cons h31 <| good_cons h32 <| good_cons h33 <| good_cons h34 <| good_cons h35 <| good_cons h41 <| good_cons h42 <| good_cons h44 <| good_cons h45 <| good_cons h47 <| good_cons h48 <| good_cons h49 <| good_cons h50 <| good_cons h51 <| good_cons h52 <| good_cons h54 <| good_cons h55 <| good_cons h56 <| good_cons h57 <| good_cons h58 <| good_cons h59 <| good_cons h60 <| good_cons h61 <| good_cons h67 <| good_cons h68 <| good_cons h76 <| good_cons h77 <| good_cons h80 <| good_cons h82 <| good_cons h84 <| good_cons h86 <| good_cons h87 <| good_cons h88 <| good_cons h89 <| good_cons h90 <| good_cons h91 <| good_cons h92 <| good_cons h93 <| good_cons h96 <| good_cons h97 <| good_cons h99 <| good_cons h102 <| good_cons h103 <| good_cons h104 <| good_cons h105 <| good_cons h108 <| good_cons h119 <| good_cons h121 <| good_cons h123 <| good_cons h124 <| good_cons h127 <| good_cons h128 <| good_cons h129 <| good_cons h130 <| good_cons h131 <| good_cons h132 <| good_cons h134 <| good_cons h135 <| good_cons h136 <| good_cons h137 <| good_cons h139 <| good_cons h143 <| good_cons h144 <| good_cons h157 <| good_cons h158 <| good_cons h159 <| good_cons h160 <| good_cons h161 <| good_cons h162 <| good_cons h163 <| good_cons h164 <| good_cons h168 <| good_cons h169 <| good_cons h171 <| good_cons h173 <| good_cons h176 <| good_cons h179 <| good_cons h196 <| good_cons h197 <| good_cons h198 <| good_cons h202 <| good_cons h203 <| good_cons h204 <| good_cons h205 <| good_cons h206 <| good_cons h208 <| good_cons h209 <| good_cons h211 <| good_cons h216 <| good_cons h217 <| good_cons h255 <| good_cons h256 <| good_cons h257 <| good_cons h258 <| good_cons h259 <| good_cons h260 <| good_cons h262 <| good_cons h263 <| good_cons h264 <| good_cons h265 <| good_cons h266 <| good_cons h269 <| good_cons h288 <| good_cons h303 <| good_cons h304 <| good_cons h310 <| good_cons h311 <| good_cons h312 <| good_cons h343 <| good_cons h344 <| good_cons h345 <| good_cons h346 <| good_cons h347 <| good_cons h348 <| good_cons h351 <| good_cons h352 <| good_cons h353 <| good_cons h354 <| good_cons h356 <| good_cons h357 <| good_cons h358 <| good_cons h387 <| good_cons h388 <| good_cons h389 <| good_cons h390 <| good_cons h391 <| good_cons h392 <| good_cons h393 <| good_cons h396 <| good_cons h398 <| good_cons h401 <| good_cons h422 <| good_cons h423 <| good_cons h424 <| good_cons h425 <| good_cons h444 <| good_cons h445 <| good_nil
theorem lookF_ok {f : Nat} {c : CFunc} : ∀ {l : List (Nat × CFunc)}, Good l → lookF f l = some c → FOk Tryz.prog IX f c := by
  intro l
  induction l with
  | nil => intro _ h; cases h
  | cons x l ih =>
    intro hg h
    obtain ⟨g, d⟩ := x
    simp only [lookF] at h
    split at h
    · rename_i e
      have e := Nat.eq_of_beq_eq_true e
      have e2 := Option.some.inj h
      rw [← e, ← e2]
      exact compFunc_ok (hg (g, d) (List.mem_cons_self ..))
    · exact ih (fun x hx => hg x (.tail _ hx)) h

/-- the types of whose rows some may bear the mark: the bytes -/
noncomputable def markT (T : Nat) : Bool := isU8 Tryz.prog T
noncomputable def BN (n : Nat) (ρ : Nat → Value) : Base := ⟨n, markT, ρ⟩
theorem size58 : ∀ w, (sizeOf 58).run Tryz.prog w = .ok 11 w := fun _ => by kernel_rfl
theorem ix_ok (n : Nat) (ρ : Nat → Value) : IxOk (BN n ρ) Tryz.prog IX := by
  refine ⟨?_, ?_, ?_, ?_⟩
  · intro e he
    show isU8 Tryz.prog e = true
    unfold isU8
    rw [he]
  · intro f T h
    cases h
    refine ⟨(by kernel_rfl : isU8 Tryz.prog 58 = false), 34, 4, 11, Tryz.underlying34, size58, fun args w => ?_⟩
    exact run_callFunc_extern Tryz.func100 (by kernel_rfl) (by kernel_rfl) (by kernel_rfl) (e := Extern.SlicesOverlaps.overlaps #[34, 34] #[4]) (by kernel_rfl) args w
  · intro args w
    exact run_callFunc_extern Tryz.func261 (by kernel_rfl) (by kernel_rfl) (by kernel_rfl) (e := Extern.BytealgIndexByte.indexByte) (by kernel_rfl) args w
  · intro x w
    rw [run_callFunc_extern Tryz.func178 (by kernel_rfl) (by kernel_rfl) (by kernel_rfl) (e := Extern.AbiNoEscape.same) (by kernel_rfl) #[x] w]
    rfl
theorem fs_ok : FsOk Tryz.prog IX EN := fun f cf h => lookF_ok table_good h
theorem prims_ok (n : Nat) (ρ : Nat → Value) : PrimsOk (BN n ρ) Tryz.prog EN := by
  intro f p h
  simp only [EN] at h
  split at h
  · rename_i e
    have e := Nat.eq_of_beq_eq_true e
    subst e
    cases h
    exact pIns_ok mixed (ix_ok n ρ)
  · cases h
theorem EN_defs : DefsOk Tryz.prog EN.defs := defs_ok
/-- WHAT THE EVALUATOR SAYS, THE PROGRAM DOES. -/
theorem sound (n : Nat) (ρ : Nat → Value) {k f : Nat} {args : List AV} {h : H} {v : AV} {h' : H} (he : (cbN EN k f).run args h ret = some (v, h')) : ∀ φ w (argv : Array Value), HR (BN n ρ) lay φ h w → VRs φ args argv.toList →
    ∀ R : Ending → World → Prop, (∀ v' w' ψ, VR ψ v v' → HR (BN n ρ) lay ψ h' w' → Step φ h w ψ h' w' → R (.returned v') w') → Calls Tryz.prog f argv w R :=
  quick_sound (E := EN) mixed (ix_ok n ρ) EN_defs (prims_ok n ρ) fs_ok he
end Go.Proofs.YtiecbbepfjiceaaGreatDoor
