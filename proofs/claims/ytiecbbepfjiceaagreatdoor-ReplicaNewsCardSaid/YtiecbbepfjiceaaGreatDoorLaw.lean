/-
  The law, for every two numbers and every memory that holds what the text lays: the call yields true and leaves what was there.
-/
import Derived.Test.YtiecbbepfjiceaaGreatDoorEnvB
import Derived.Test.YtiecbbepfjiceaaGreatDoorSmall
import Derived.Test.YtiecbbepfjiceaaGreatDoorNewsRun
import Derived.Test.YtiecbbepfjiceaaGreatDoorTieL
import Derived.Lib.LaidTab
set_option linter.unusedVariables false
set_option linter.unusedSimpArgs false
namespace Go.Proofs.YtiecbbepfjiceaaGreatDoor
open Go Go.Clean
set_option maxRecDepth 100000

theorem fs_ok2 : FsOk Tryz.prog IX EN2 := fun _ _ h => lookF_ok table_good h
theorem prims_ok2 (n : Nat) (ρ : Nat → Value) : PrimsOk (BN n ρ) Tryz.prog EN2 := by
  intro f p h
  simp only [EN2] at h
  split at h
  · rename_i e
    have e := Nat.eq_of_beq_eq_true e
    subst e
    cases h
    exact pIns_ok mixed (ix_ok n ρ)
  · split at h
    · rename_i e
      have e := Nat.eq_of_beq_eq_true e
      subst e
      cases h
      intro args h v h' he φ w argv r hv
      refine ⟨?_, fun R hR => ?_⟩
      · obtain ⟨fn, c, h1, h2, h3, _⟩ := compFunc_ok h4
        exact ⟨fn, c, h1, h2, h3⟩
      · cases args with
        | cons _ _ => cases he
        | nil =>
          cases he
          obtain ⟨h', hs⟩ := okTrue_ok small_run
          exact memo_bool (fun φ w argv r hv R hR => sound n ρ hs φ w argv r hv R hR) r hv hR
    · cases h
theorem sound2 (n : Nat) (ρ : Nat → Value) {k f : Nat} {args : List AV} {h : H} {v : AV} {h' : H} (he : (cbN EN2 k f).run args h ret = some (v, h')) : ∀ φ w (argv : Array Value), HR (BN n ρ) lay φ h w → VRs φ args argv.toList →
    ∀ R : Ending → World → Prop, (∀ v' w' ψ, VR ψ v v' → HR (BN n ρ) lay ψ h' w' → Step φ h w ψ h' w' → R (.returned v') w') → Calls Tryz.prog f argv w R :=
  quick_sound (E := EN2) mixed (ix_ok n ρ) EN_defs (prims_ok2 n ρ) fs_ok2 he

/-- the memory that the evaluator takes for granted -/
def LaidAt (W : World) : Prop := ∀ o, o < 256 → W.cell? ⟨1, o, none⟩ = some (.int .u8 (match isIn o ascTab with | true => 1 | false => 0))
def rho (a b : Int) : Nat → Value := fun i => if i = 0 then .int .i64 a else .int .i64 b
theorem start_ok {W : World} (hL : LaidAt W) (a b : Int) : HR (BN W.heap.size (rho a b)) lay ⟨fun _ => none, rho a b, markT⟩ ⟨.leaf, 0⟩ W := by
  refine ⟨?_, ?_, ?_, ?_, Nat.le_refl _, ⟨rfl, rfl⟩, ?_⟩
  · intro _ _ _ e; cases e
  · intro _ _ _ _ e; cases e
  · intro _ _ _ _ _ _ _ e; cases e
  · intro g o v h
    simp only [lay] at h
    split at h
    · rename_i hc
      simp only [Bool.and_eq_true] at hc
      have e := Nat.eq_of_beq_eq_true hc.1
      have ho : o < 256 := by simpa using hc.2
      subst e
      cases h
      have hcell := hL o ho
      refine ⟨?_, rfl, _, hcell, fun φ => .int _ _⟩
      by_cases hlt : 1 < W.heap.size
      · exact hlt
      · have : W.heap[1]? = none := by simp; omega
        simp [World.cell?, this] at hcell
    · cases h
  · intro b o e
    rw [Tr.get_leaf] at e
    cases e

/-- what a call that leaves all as it was says -/
def Kept (W w' : World) : Prop := (∀ c, c < W.heap.size → w'.heap[c]? = W.heap[c]?) ∧ w'.os = W.os ∧ w'.output = W.output

theorem run_case {W : World} (hL : LaidAt W) {a b lo hi lo2 hi2 : Int} (h : okTrue (newsRun lo hi lo2 hi2) = true) (h1 : lo ≤ a) (h2 : a ≤ hi) (h3 : lo2 ≤ b) (h4 : b ≤ hi2) :
    Calls Tryz.prog 3 #[.int .i64 a, .int .i64 b] W fun e w' => e = .returned (.bool true) ∧ Kept W w' := by
  obtain ⟨h', hr⟩ := okTrue_ok h
  refine sound2 W.heap.size (rho a b) hr _ W _ (start_ok hL a b) (.cons (.itok rfl h1 h2) (.cons (.itok rfl h3 h4) .nil)) _ ?_
  intro v' w' ψ hv r s
  cases hv
  exact ⟨rfl, fun c hc => s.same c hc (by rintro ⟨b, d, e⟩; cases e), s.os, s.output⟩

theorem law {W : World} (hL : LaidAt W) {a b : Int} (ha0 : -9223372036854775808 ≤ a) (ha1 : a ≤ 9223372036854775807) (hb0 : -9223372036854775808 ≤ b) (hb1 : b ≤ 9223372036854775807) :
    Calls Tryz.prog 3 #[.int .i64 a, .int .i64 b] W fun e w' => e = .returned (.bool true) ∧ Kept W w' := by
  have hlo : Int.negSucc 9223372036854775807 = -9223372036854775808 := rfl
  have hhi : Int.ofNat 9223372036854775807 = 9223372036854775807 := rfl
  by_cases h1 : a ≤ 0
  · exact run_case hL news1 (by rw [hlo]; exact ha0) h1 (by rw [hlo]; exact hb0) (by rw [hhi]; exact hb1)
  · by_cases h2 : 13 ≤ a
    · exact run_case hL news2 h2 (by rw [hhi]; exact ha1) (by rw [hlo]; exact hb0) (by rw [hhi]; exact hb1)
    · have h3 : Int.ofNat 1 ≤ a := by show (1 : Int) ≤ a; omega
      have h4 : a ≤ Int.ofNat 12 := by show a ≤ (12 : Int); omega
      by_cases h5 : b ≤ 0
      · exact run_case hL news3 h3 h4 (by rw [hlo]; exact hb0) h5
      · by_cases h6 : 4097 ≤ b
        · exact run_case hL news4 h3 h4 h6 (by rw [hhi]; exact hb1)
        · exact run_case hL news5 h3 h4 (by show (1 : Int) ≤ b; omega) (by show b ≤ (4096 : Int); omega)

/-! ### the table, out of the row's list -/
def ascList : List Int := (List.range 256).map fun o => match isIn o ascTab with | true => 1 | false => 0
theorem gTab : Tryz.prog.globalNamed "strings.asciiSpace" = some 1 := by kernel_rfl
theorem gTabType : (Tryz.prog.globals[1]?).map (·.type) = some 461 := by kernel_rfl
theorem arr461 : ∃ e, Tryz.prog.underlying 461 = some (.array 256 e) ∧ Tryz.prog.underlying e = some (.int .u8) ∧ Tryz.prog.cellsOf e = 1 := ⟨5, Tryz.underlying461, by kernel_rfl, by kernel_rfl⟩
theorem cells461 : Tryz.prog.cellsOf 461 = 256 := by kernel_rfl
theorem laid_at {W : World} (h : laidMet Tryz.prog LL W) : LaidAt W := by
  obtain ⟨e, h1, h2, h3⟩ := arr461
  have ht : Lib.TabIs Tryz.prog W "strings.asciiSpace" .u8 ascList := Lib.tabIs_of_head (rest := LL.tail) gTab gTabType h1 h2 h3 cells461 (show laidMet Tryz.prog (("strings.asciiSpace", Lib.tabData .u8 ascList) :: LL.tail) W from h)
  intro o ho
  have hl : ascList.length = 256 := by simp [ascList]
  rw [ht.cell gTab o (by rw [hl]; exact ho)]
  congr 2
  simp [ascList, List.getD, ho]
end Go.Proofs.YtiecbbepfjiceaaGreatDoor
