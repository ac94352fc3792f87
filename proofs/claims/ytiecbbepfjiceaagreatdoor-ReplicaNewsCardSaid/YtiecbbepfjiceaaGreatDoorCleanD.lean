/-
  CLEAN, part C: operations whose types are resolved, and that the evaluator of one is sound.
  CLEAN, part C2: every operation served, and its soundness.
  CLEAN, part C3: operations, all.
-/
import Derived.Test.YtiecbbepfjiceaaGreatDoorCleanC
import Derived.Laws.Externs
import Derived.Lib.Builder
import Derived.Lib.Overlaps
set_option linter.unusedVariables false
set_option linter.unusedSimpArgs false
namespace Go.Clean

/-! ### constants -/
def avs (f : Value → Option AV) : List Value → Option (List AV)
  | [] => some []
  | v :: l => match f v, avs f l with
    | some a, some r => some (a :: r)
    | _, _ => none
def avOf : Nat → Value → Option AV
  | 0, _ => none
  | n + 1, v => match v with
    | .bool b => some (.bool b)
    | .int k i => some (.int k i)
    | .string s => some (.str (s.data.toList.map (·.toNat)))
    | .pointer none => some .nilPtr
    | .slice none 0 0 => some .nilSlice
    | .map none => some .nilMap
    | .nilFunc => some .nilFunc
    | .nilIface => some .nilIface
    | .iface t v => (avOf n v).map (.iface t)
    | .agg cs => match avs (avOf n) cs.toList with
      | some l => if cellsOk l then some (.agg l) else none
      | none => none
    | .tuple cs => (avs (avOf n) cs.toList).map .tuple
    | .func (.func f) a b => match avs (avOf n) a.toList, avs (avOf n) b.toList with
      | some x, some y => some (.func f x y)
      | _, _ => none
    | _ => none

theorem avs_ok {f : Value → Option AV} (hf : ∀ v a, f v = some a → ∀ φ, VR φ a v) : ∀ {l : List Value} {r : List AV}, avs f l = some r → ∀ φ, VRs φ r l := by
  intro l
  induction l with
  | nil => intro r h φ; cases h; exact .nil
  | cons v l ih =>
    intro r h φ
    simp only [avs] at h
    split at h <;> try contradiction
    rename_i a r' h1 h2
    cases h
    exact .cons (hf _ _ h1 φ) (ih h2 φ)

theorem avOf_ok : ∀ (n : Nat) (v : Value) (a : AV), avOf n v = some a → ∀ φ, VR φ a v := by
  intro n
  induction n with
  | zero => intro v a h; cases h
  | succ n ih =>
    intro v a h φ
    simp only [avOf] at h
    split at h <;> try contradiction
    · cases h; exact .bool _
    · cases h; exact .int _ _
    · cases h; exact .str rfl
    · cases h; exact .nilPtr
    · cases h; exact .nilSlice
    · cases h; exact .nilMap
    · cases h; exact .nilFunc
    · cases h; exact .nilIface
    · obtain ⟨b, hb, rfl⟩ := Option.map_eq_some_iff.1 h
      exact .iface (ih _ _ hb φ)
    · split at h <;> try contradiction
      rename_i l hl
      split at h <;> try contradiction
      rename_i hc
      cases h
      exact .agg (avs_ok ih hl φ) hc
    · obtain ⟨b, hb, rfl⟩ := Option.map_eq_some_iff.1 h
      exact .tuple (avs_ok ih hb φ)
    · split at h <;> try contradiction
      rename_i x y hx hy
      cases h
      exact .func (avs_ok ih hx φ) (avs_ok ih hy φ)

def aoOf : Operand → Option AO
  | .tmp t => some (.tmp t)
  | .const v => (avOf 40 v).map .const
  | .global g => some (.glob g)
  | .func f => some (.func f)
def aosOf : List Operand → Option (List AO)
  | [] => some []
  | x :: l => match aoOf x, aosOf l with
    | some a, some r => some (a :: r)
    | _, _ => none
def aoO : Option Operand → Option (Option AO)
  | none => some none
  | some x => (aoOf x).map some

/-- the tmps -/
def TR (φ : Phi) (m : Tr AV) (a : Act) : Prop := ∀ t, VR φ (aev (.tmp t) m) (a.eval (.tmp t))

theorem TR.mono {φ ψ : Phi} (hle : Le φ ψ) {m : Tr AV} {a : Act} (h : TR φ m a) : TR ψ m a := fun t => (h t).mono hle

section
variable {B : Base} {L : Laid} {P : Program} {φ : Phi} {h : H} {w : World} {m : Tr AV} {a : Act}

theorem aev_ok (ht : TR φ m a) {x : Operand} {o : AO} (hx : aoOf x = some o) : VR φ (aev o m) (a.eval x) := by
  cases x with
  | tmp t => cases hx; exact ht t
  | const v =>
    obtain ⟨b, hb, rfl⟩ := Option.map_eq_some_iff.1 hx
    exact avOf_ok _ _ _ hb φ
  | global g => cases hx; exact .gptr g 0
  | func f => cases hx; exact .func (a := #[]) (b := #[]) .nil .nil

theorem aevs_ok (ht : TR φ m a) : ∀ {l : List Operand} {r : List AO}, aosOf l = some r → VRs φ (aevs r m) (l.map a.eval) := by
  intro l
  induction l with
  | nil => intro r h; cases h; exact .nil
  | cons x l ih =>
    intro r h
    simp only [aosOf] at h
    split at h <;> try contradiction
    rename_i o r' h1 h2
    cases h
    exact .cons (aev_ok ht h1) (ih h2)

theorem aevO_ok (ht : TR φ m a) {x : Option Operand} {o : Option AO} (hx : aoO x = some o) : VRo φ (aevO o m) (x.map a.eval) := by
  cases x with
  | none => cases hx; exact .none
  | some x =>
    obtain ⟨b, hb, rfl⟩ := Option.map_eq_some_iff.1 hx
    exact .some (aev_ok ht hb)

/-! ### types -/
def zeroOf (P : Program) (t : TypeId) : Option (List AV) :=
  match P.info? t with
  | some i => match i.zero with
    | some z => match avOf 40 z with
      | some a => if cellsOk (cellsA a) && (cellsA a).length == i.size then some (cellsA a) else none
      | none => none
    | none => none
  | none => none
theorem zeroOf_ok {t : TypeId} {zl : List AV} (h : zeroOf P t = some zl) : ∃ i z, P.info? t = some i ∧ i.zero = some z ∧ ZR zl z ∧ i.size = zl.length := by
  unfold zeroOf at h
  split at h <;> try contradiction
  rename_i i hi
  split at h <;> try contradiction
  rename_i z hz
  split at h <;> try contradiction
  rename_i a ha
  split at h <;> try contradiction
  rename_i hc
  cases h
  simp only [Bool.and_eq_true, beq_iff_eq] at hc
  exact ⟨i, z, hi, hz, ⟨hc.1, fun φ => (avOf_ok _ _ _ ha φ).cells⟩, hc.2.symm⟩
def zeroV (P : Program) (t : TypeId) : Option AV :=
  match P.info? t with
  | some i => match i.zero with
    | some z => avOf 40 z
    | none => none
  | none => none
theorem zeroV_ok {t : TypeId} {a : AV} (h : zeroV P t = some a) : ∃ i z, P.info? t = some i ∧ i.zero = some z ∧ ∀ φ, VR φ a z := by
  unfold zeroV at h
  split at h <;> try contradiction
  rename_i i hi
  split at h <;> try contradiction
  rename_i z hz
  exact ⟨i, z, hi, hz, avOf_ok _ _ _ h⟩
def sliceOf (P : Program) (t : TypeId) : Option TypeId :=
  match P.underlying t with
  | some (.slice e) => some e
  | _ => none
theorem sliceOf_ok {t e : TypeId} (h : sliceOf P t = some e) : P.underlying t = some (.slice e) := by
  unfold sliceOf at h
  split at h <;> try contradiction
  rename_i hu
  cases h
  exact hu
def isU8 (P : Program) (t : TypeId) : Bool :=
  match P.underlying t with
  | some (.int .u8) => true
  | _ => false
theorem isU8_ok {t : TypeId} (h : isU8 P t = true) : P.underlying t = some (.int .u8) := by
  unfold isU8 at h
  split at h <;> try contradiction
  assumption

def partsOf (place : Nat → Option (Nat × Nat)) : List (Nat × Operand) → Option (List (Nat × Nat × AO))
  | [] => some []
  | (i, x) :: l => match place i, aoOf x, partsOf place l with
    | some (off, size), some o, some r => some ((off, size, o) :: r)
    | _, _, _ => none
theorem partsOf_ok (ht : TR φ m a) {place : Nat → Option (Nat × Nat)} : ∀ {l : List (Nat × Operand)} {r : List (Nat × Nat × AO)}, partsOf place l = some r → PRs φ place (partsA m r) (l.map fun (i, x) => (i, a.eval x)) := by
  intro l
  induction l with
  | nil => intro r h; cases h; exact .nil
  | cons p l ih =>
    intro r h
    obtain ⟨i, x⟩ := p
    simp only [partsOf] at h
    split at h <;> try contradiction
    rename_i off size o r' h1 h2 h3
    cases h
    exact .cons h1 (aev_ok ht h2) (ih h3)

/-! ### operations -/
def DoneN (B : Base) (L : Laid) (P : Program) (s : Sem Next) (φ : Phi) (h : H) (w : World) (v : AV) (h' : H) : Prop :=
  ∃ nx w' ψ, s.run P w = .ok nx w' ∧ ((∃ v', nx = .value v' ∧ VR ψ v v') ∨ (nx = .skip ∧ v = .undef)) ∧ HR B L ψ h' w' ∧ Step φ h w ψ h' w'
theorem next_V {s : Sem Value} {v : AV} {h' : H} (hd : DoneV B L P s φ h w v h') : DoneN B L P (do pure (.value (← s))) φ h w v h' := by
  obtain ⟨v', w', ψ, h1, h2, h3, h4⟩ := hd
  exact ⟨.value v', w', ψ, by rw [Sem.run_bind, h1]; rfl, .inl ⟨v', rfl, h2⟩, h3, h4⟩
theorem next_U {s : Sem Unit} {h' : H} (hd : DoneU B L P s φ h w h') : DoneN B L P (do s; pure .skip) φ h w .undef h' := by
  obtain ⟨w', ψ, h1, h3, h4⟩ := hd
  exact ⟨.skip, w', ψ, by rw [Sem.run_bind, h1]; rfl, .inr ⟨rfl, rfl⟩, h3, h4⟩
theorem next_same (r : HR B L φ h w) {v : AV} {v' : Value} (hv : VR φ v v') : DoneN B L P (pure (Next.value v') : Sem Next) φ h w v h :=
  ⟨_, w, φ, rfl, .inl ⟨v', rfl, hv⟩, r, .refl _ _ _⟩

def cBuild (P : Program) (t : TypeId) (ps : List (Nat × Operand)) : Option COp :=
  match zeroOf P t, P.underlying t with
  | some z, some (.struct fs) => match fs.toList.mapM (fun f => (P.info? f.type).map fun i => (f.offset, i.size)) with
    | some places => (partsOf (places.toArray[·]?) ps).map (.build z)
    | none => none
  | some z, some (.array _ e) => match P.info? e with
    | some ie => (partsOf (fun i => some (i * ie.size, ie.size)) ps).map (.build z)
    | none => none
  | _, _ => none

theorem cBuild_ok (r : HR B L φ h w) (ht : TR φ m a) {t : TypeId} {ps : Array (Nat × Operand)} {c : COp} (hc : cBuild P t ps.toList = some c) {v : AV} {h' : H} (he : evalOp L c m h = some (v, h')) :
    DoneV B L P (Instr.build t (ps.map fun (i, x) => (i, a.eval x))) φ h w v h' := by
  have key : ∀ (place : Nat → Option (Nat × Nat)) (z : List AV) (zv : Value) (l : List (Nat × Nat × AO)), ZR z zv → partsOf place ps.toList = some l → c = .build z l →
      P.built t (ps.map fun (i, x) => (i, a.eval x)).toList = Instr.fill place zv.cells (ps.map fun (i, x) => (i, a.eval x)).toList → DoneV B L P (Instr.build t (ps.map fun (i, x) => (i, a.eval x))) φ h w v h' := by
    intro place z zv l hz hl e hb
    subst e
    simp only [evalOp] at he
    split at he <;> try contradiction
    rename_i l' hl'
    split at he <;> try contradiction
    rename_i hcl
    cases he
    exact built_ok r hz (by rw [Array.toList_map]; exact partsOf_ok ht hl) hb hl' hcl
  unfold cBuild at hc
  split at hc <;> try contradiction
  · rename_i z fs hz hu
    split at hc <;> try contradiction
    rename_i places hpl
    obtain ⟨l, hl, rfl⟩ := Option.map_eq_some_iff.1 hc
    obtain ⟨i, zv, hi, hzv, hzr, _⟩ := zeroOf_ok hz
    exact key _ z zv l hzr hl rfl (by unfold Program.built; simp only [hi, hu, hzv, hpl])
  · rename_i z n e hz hu
    split at hc <;> try contradiction
    rename_i ie hie
    obtain ⟨l, hl, rfl⟩ := Option.map_eq_some_iff.1 hc
    obtain ⟨i, zv, hi, hzv, hzr, _⟩ := zeroOf_ok hz
    exact key _ z zv l hzr hl rfl (by unfold Program.built; simp only [hi, hu, hzv, hie])

def cBuildSlice0 (P : Program) (t : TypeId) (n : Nat) (ps : List (Nat × Operand)) : Option COp :=
  match n, ps, sliceOf P t with
  | 0, [], some e => match P.info? e with
    | some _ => some (.buildSlice e [] 0 [])
    | none => none
  | _, _, _ => none
theorem cBuildSlice0_ok (r : HR B L φ h w) {t : TypeId} {n : Nat} {ps : Array (Nat × Operand)} {c : COp} (hc : cBuildSlice0 P t n ps.toList = some c) {v : AV} {h' : H} (he : evalOp L c m h = some (v, h')) :
    DoneV B L P (Instr.buildSlice t n (ps.map fun (i, x) => (i, a.eval x))) φ h w v h' := by
  unfold cBuildSlice0 at hc
  split at hc <;> try contradiction
  rename_i e hps hu
  split at hc <;> try contradiction
  rename_i i hi
  cases hc
  have : ps = #[] := by cases ps; simp at hps; subst hps; rfl
  subst this
  have he' : v = .slice h.next 0 0 0 0 ∧ h' = newB h (.cells [] e false false) := by
    have h1 : evalOp L (.buildSlice e [] 0 []) m h = some (.slice h.next 0 0 0 0, newB h (.cells [] e false false)) := rfl
    rw [h1] at he
    cases he
    exact ⟨rfl, rfl⟩
  obtain ⟨rfl, rfl⟩ := he'
  simpa using buildSlice0_ok r (sliceOf_ok hu) hi

def cBuildSlice (P : Program) (t : TypeId) (n : Nat) (ps : List (Nat × Operand)) : Option COp :=
  match sliceOf P t with
  | some e => match zeroOf P e, P.info? e with
    | some z, some ie => if 0 < n * ie.size && n * ie.size ≤ 16777216 then (partsOf (fun i => some (i * ie.size, ie.size)) ps).map (.buildSlice e z n) else none
    | _, _ => none
  | none => none
theorem cBuildSlice_ok (r : HR B L φ h w) (ht : TR φ m a) {t : TypeId} {n : Nat} {ps : Array (Nat × Operand)} {c : COp} (hc : cBuildSlice P t n ps.toList = some c) {v : AV} {h' : H} (he : evalOp L c m h = some (v, h')) :
    DoneV B L P (Instr.buildSlice t n (ps.map fun (i, x) => (i, a.eval x))) φ h w v h' := by
  unfold cBuildSlice at hc
  split at hc <;> try contradiction
  rename_i e hu
  have hu := sliceOf_ok hu
  split at hc <;> try contradiction
  rename_i z ie hz hie
  split at hc <;> try contradiction
  rename_i hcond
  simp only [Bool.and_eq_true, decide_eq_true_eq] at hcond
  obtain ⟨l, hl, rfl⟩ := Option.map_eq_some_iff.1 hc
  obtain ⟨i, zv, hi, hzv, hzr, hsz⟩ := zeroOf_ok hz
  rw [hie] at hi
  cases hi
  simp only [evalOp] at he
  split at he <;> try contradiction
  rename_i l' hl'
  split at he <;> try contradiction
  rename_i hcl
  cases he
  exact buildSlice_ok r hu hie hzv hzr hsz (by omega) hcond.1 (by rw [Array.toList_map]; exact partsOf_ok ht hl) hl' hcl

end
end Go.Clean

namespace Go.Clean

section
variable {B : Base} {L : Laid} {P : Program} {φ : Phi} {h : H} {w : World} {m : Tr AV} {a : Act}

def isConst : Operand → Bool
  | .const _ => true
  | _ => false
def scalar : KK → Bool
  | .int => true
  | .str => true
  | _ => false
def eqC (P : Program) (neg : Bool) (t : TypeId) (x y : Operand) (a b : AO) : Option COp :=
  match kkOf P 20 t with
  | some k => match k with
    | .int => none
    | .str => none
    | .iface => if isConst x || isConst y then some (.eq neg .iface a b) else none
    | .struct l => if P.eqGuardType P.depth t then none else some (.eq neg (.struct l) a b)
    | k => some (.eq neg k a b)
  | none => none
def cBin (P : Program) (op : BinOp) (t : TypeId) (x y : Operand) : Option COp :=
  match aoOf x, aoOf y with
  | some a, some b => match P.underlying t with
    | some (.int _) => some (.arith op a b)
    | some .string => some (.arith op a b)
    | _ => match op with
      | .eql => eqC P false t x y a b
      | .neq => eqC P true t x y a b
      | _ => none
  | _, _ => none

theorem eqGuard_int (op : BinOp) (t : TypeId) (x y : Operand) (k k' : IntKind) (i j : Int) (w : World) : (eqGuard op t x y (.int k i) (.int k' j)).run P w = .ok () w := by
  cases op <;> rfl
theorem eqGuard_str (op : BinOp) (t : TypeId) (x y : Operand) (i j : ByteArray) (w : World) : (eqGuard op t x y (.string i) (.string j)).run P w = .ok () w := by
  cases op <;> rfl

theorem guarded {op : BinOp} {t : TypeId} {x y : Operand} {u v : Value} (hg : (eqGuard op t x y u v).run P w = .ok () w) {va : AV} {h' : H} (hd : DoneV B L P (binOp op t u v) φ h w va h') :
    DoneV B L P (do eqGuard op t x y u v; binOp op t u v) φ h w va h' := by
  obtain ⟨v', w', ψ, h1, h2, h3, h4⟩ := hd
  exact ⟨v', w', ψ, by rw [Sem.run_bind, hg]; exact h1, h2, h3, h4⟩

theorem itokCmp_ok {op : BinOp} {lo hi n c : Int} {k : IntKind} {b : Bool} (h : itokCmp op lo hi k c = some b) (h1 : lo ≤ n) (h2 : n ≤ hi) : k = .i64 ∧ arithI op .i64 n c = some (.inr b) := by
  unfold itokCmp at h
  split at h <;> try contradiction
  refine ⟨rfl, ?_⟩
  have lt : ∀ {x y : Int}, iBle x y = false → ¬ x ≤ y := fun {x y} e => by rw [iBle_eq] at e; simpa using e
  have le : ∀ {x y : Int}, iBle x y = true → x ≤ y := fun {x y} e => by rw [iBle_eq] at e; simpa using e
  have un : ∀ {x y : Int}, ¬ x ≤ y → iBle x y = false := fun {x y} e => by rw [iBle_eq]; simpa using e
  have ye : ∀ {x y : Int}, x ≤ y → iBle x y = true := fun {x y} e => by rw [iBle_eq]; simpa using e
  split at h
  · rw [(arithI_cmp .lss .i64 n c).1 rfl]
    split at h <;> try contradiction
    · rename_i e
      cases h
      have := lt e
      rw [un (by omega)]; rfl
    · rename_i _ e
      cases h
      have := le e
      rw [ye (by omega)]; rfl
  · rw [(arithI_cmp .gtr .i64 n c).2 rfl]
    split at h <;> try contradiction
    · rename_i e
      cases h
      have := lt e
      rw [un (by omega)]; rfl
    · rename_i _ e
      cases h
      have := le e
      rw [ye (by omega)]; rfl
  · cases h

theorem arith_ok (r : HR B L φ h w) {op : BinOp} {t : TypeId} {x y : Operand} {u v : Value} {xa ya : AO} (hx : VR φ (aev xa m) u) (hy : VR φ (aev ya m) v) {va : AV} {h' : H} (he : evalOp L (.arith op xa ya) m h = some (va, h')) :
    DoneV B L P (do eqGuard op t x y u v; binOp op t u v) φ h w va h' := by
  simp only [evalOp] at he
  split at he <;> try contradiction
  · rename_i k i k' j e1 e2
    rw [e1] at hx
    rw [e2] at hy
    cases hx; cases hy
    refine guarded (eqGuard_int _ _ _ _ _ _ _ _ _) ?_
    split at he
    · split at he <;> try contradiction
      rename_i z hz
      cases he
      exact .pure r (by rw [shiftI_ok hz]; rfl) (.int _ _)
    · split at he <;> try contradiction
      rename_i z hz
      cases he
      exact .pure r (by rw [shiftI_ok hz]; rfl) (.int _ _)
    · split at he <;> try contradiction
      rename_i hkk
      subst hkk
      split at he <;> try contradiction
      · rename_i z hz
        cases he
        exact .pure r (by rw [arithI_ok hz]; rfl) (.int _ _)
      · rename_i z hz
        cases he
        exact .pure r (by rw [arithI_ok hz]; rfl) (.bool _)
  · rename_i i j e1 e2
    rw [e1] at hx
    rw [e2] at hy
    cases hx with
    | @str _ s1 b1 => cases hy with
      | @str _ s2 b2 =>
        refine guarded (eqGuard_str _ _ _ _ _ _ _) ?_
        have hsb : (s1.toList == s2.toList) = eqNats i j := by rw [← beq_toListBytes, str_beq, b1, b2, eqNats_eq]
        split at he <;> try contradiction
        · split at he <;> try contradiction
          rename_i hle
          have hle := Nat.le_of_ble_eq_true hle
          cases he
          refine .pure r (v' := .string (s1 ++ s2)) ?_ (.str ?_)
          · have l1 : i.length = s1.size := by rw [← b1]; simp
            have l2 : j.length = s2.size := by rw [← b2]; simp
            have hmax : IntKind.i64.max = 9223372036854775807 := rfl
            show (Op.stringOp .add s1 s2).run P w = _
            unfold Op.stringOp
            simp only
            rw [if_neg (by rw [hmax]; omega)]
            rfl
          · rw [← b1, ← b2]; simp
        · cases he
          refine .pure r (v' := .bool (s1.toList == s2.toList)) rfl ?_
          rw [hsb]; exact .bool _
        · cases he
          refine .pure r (v' := .bool (!(s1.toList == s2.toList))) rfl ?_
          rw [hsb]; exact .bool _
  · rename_i i lo hi k c e1 e2
    rw [e1] at hx
    rw [e2] at hy
    split at he <;> try contradiction
    rename_i b hb
    cases he
    cases hy
    cases hx with
    | @itok _ _ _ n h0 hlo hhi =>
    refine guarded (eqGuard_int _ _ _ _ _ _ _ _ _) ?_
    have e3 := itokCmp_ok (n := n) hb hlo hhi
    exact .pure r (by rw [e3.1, arithI_ok e3.2]; rfl) (.bool _)

theorem eqC_ok (r : HR B L φ h w) (ht : TR φ m a) {neg : Bool} {t : TypeId} {x y : Operand} {xa ya : AO} (hx : aoOf x = some xa) (hy : aoOf y = some ya) {c : COp} (hc : eqC P neg t x y xa ya = some c) {va : AV} {h' : H} (he : evalOp L c m h = some (va, h')) :
    DoneV B L P (do eqGuard (if neg then .neq else .eql) t x y (a.eval x) (a.eval y); binOp (if neg then .neq else .eql) t (a.eval x) (a.eval y)) φ h w va h' := by
  have hxv := aev_ok ht hx
  have hyv := aev_ok ht hy
  unfold eqC at hc
  split at hc <;> try contradiction
  rename_i k hk
  have fin : ∀ (b : Bool), eqK k (aev xa m) (aev ya m) = some b → scalar k = false → (eqGuard (if neg then .neq else .eql) t x y (a.eval x) (a.eval y)).run P w = .ok () w → va = .bool (notIf neg b) → h' = h →
      DoneV B L P (do eqGuard (if neg then .neq else .eql) t x y (a.eval x) (a.eval y); binOp (if neg then .neq else .eql) t (a.eval x) (a.eval y)) φ h w va h' := by
    intro b hb hs hg e1 e2
    subst e1; subst e2
    have hrun := equal_ok (P := P) (by decide : 20 ≤ 10000) hk hxv hyv hb w
    refine guarded hg ?_
    have hbin : ∀ u v, VR φ (aev xa m) u → VR φ (aev ya m) v → (binOp (if neg then .neq else .eql) t u v).run P w = ((Op.equal t u v).run P w).andThen fun b w' => .ok (.bool (notIf neg b)) w' := by
      intro u v hu hv
      unfold eqK at hb
      split at hb <;> try contradiction
      all_goals rename_i e1 e2
      all_goals (try (cases hs; done))
      all_goals (rw [e1] at hu; rw [e2] at hv; cases hu; cases hv)
      all_goals (cases neg)
      all_goals first
        | exact Sem.run_bind P _ _ w
        | exact (Sem.run_bind _ _ _ _ )
    refine .pure r (v' := .bool (notIf neg b)) ?_ (.bool _)
    rw [hbin _ _ hxv hyv, hrun]
    rfl
  have ev : ∀ k', c = .eq neg k' xa ya → ∃ b, eqK k' (aev xa m) (aev ya m) = some b ∧ va = .bool (notIf neg b) ∧ h' = h := by
    intro k' e
    subst e
    simp only [evalOp] at he
    split at he <;> try contradiction
    rename_i b hb
    cases he
    exact ⟨b, hb, rfl, rfl⟩
  have noGuard : ∀ b, eqK k (aev xa m) (aev ya m) = some b → (match k with | .iface => false | .struct _ => false | _ => true) = true → (eqGuard (if neg then .neq else .eql) t x y (a.eval x) (a.eval y)).run P w = .ok () w := by
    intro b hb hk'
    revert hxv hyv
    generalize a.eval x = u
    generalize a.eval y = v
    intro hu hv
    unfold eqK at hb
    split at hb <;> try contradiction
    all_goals rename_i e1 e2
    all_goals (try (cases hk'; done))
    all_goals (rw [e1] at hu; rw [e2] at hv; cases hu; cases hv; cases neg <;> rfl)
  split at hc <;> try contradiction
  · simp only at hc
    by_cases hconst : (isConst x || isConst y) = true
    case neg => rw [if_neg hconst] at hc; cases hc
    rw [if_pos hconst] at hc
    cases hc
    obtain ⟨b, hb, e1, e2⟩ := ev _ rfl
    refine fin b hb rfl ?_ e1 e2
    revert hxv hyv
    generalize a.eval x = u
    generalize a.eval y = v
    intro hu hv
    unfold eqK at hb
    split at hb <;> try contradiction
    all_goals rename_i e1 e2
    all_goals (try (rename_i e3; cases e3; done))
    all_goals (rw [e1] at hu; rw [e2] at hv; cases hu; cases hv)
    all_goals (cases x <;> cases y <;> first | (cases hconst; done) | (cases neg <;> rfl))
  · rename_i l
    simp only at hc
    by_cases hgt : P.eqGuardType P.depth t = true
    case pos => rw [if_pos hgt] at hc; cases hc
    rw [if_neg hgt] at hc
    cases hc
    obtain ⟨b, hb, e1, e2⟩ := ev _ rfl
    refine fin b hb rfl ?_ e1 e2
    have hgt : P.eqGuardType P.depth t = false := by simpa using hgt
    revert hxv hyv
    generalize a.eval x = u
    generalize a.eval y = v
    intro hu hv
    unfold eqK at hb
    split at hb <;> try contradiction
    rename_i e3 e1 e2
    rw [e1] at hu
    rw [e2] at hv
    cases hu; cases hv
    exact run_eqGuard_agg w _ t x y _ _ hgt
  · rename_i h1 h2 h3 h4
    cases hc
    obtain ⟨b, hb, e1, e2⟩ := ev _ rfl
    have hs : scalar k = false := by cases k <;> first | rfl | exact (h1 rfl).elim | exact (h2 rfl).elim
    refine fin b hb hs (noGuard b hb ?_) e1 e2
    cases k <;> first | rfl | exact (h3 rfl).elim | exact (h4 _ rfl).elim

theorem cBin_ok (r : HR B L φ h w) (ht : TR φ m a) {op : BinOp} {t : TypeId} {x y : Operand} {c : COp} (hc : cBin P op t x y = some c) {va : AV} {h' : H} (he : evalOp L c m h = some (va, h')) :
    DoneV B L P (do eqGuard op t x y (a.eval x) (a.eval y); binOp op t (a.eval x) (a.eval y)) φ h w va h' := by
  unfold cBin at hc
  split at hc <;> try contradiction
  rename_i xa ya hx hy
  split at hc
  · cases hc; exact arith_ok r (aev_ok ht hx) (aev_ok ht hy) he
  · cases hc; exact arith_ok r (aev_ok ht hx) (aev_ok ht hy) he
  · split at hc <;> try contradiction
    · exact eqC_ok (neg := false) r ht hx hy hc he
    · exact eqC_ok (neg := true) r ht hx hy hc he

/-! ### conversions -/
/-- the types of the variables at whose head a variable of the type u lies -/
def headsOf (P : Program) (u : TypeId) : List Nat → List (Nat × Nat)
  | [] => []
  | e :: l => match P.info? e with
    | some i => match Nat.beq i.size 0 || !liesAt P P.depth e 1 0 u 1 with
      | true => headsOf P u l
      | false => (e, i.size) :: headsOf P u l
    | none => headsOf P u l
theorem headsOf_ok {P : Program} {u : TypeId} {T n : Nat} : ∀ {l : List Nat}, lookN T (headsOf P u l) = some n → ∃ i, P.info? T = some i ∧ i.size = n ∧ n ≠ 0 ∧ liesAt P P.depth T 1 0 u 1 = true := by
  intro l
  induction l with
  | nil => intro h; cases h
  | cons e l ih =>
    intro h
    simp only [headsOf] at h
    split at h
    · rename_i i hi
      split at h
      · exact ih h
      · rename_i hc
        simp only [Bool.or_eq_false_iff, Bool.not_eq_false'] at hc
        simp only [lookN] at h
        split at h
        · rename_i he
          have := Nat.eq_of_beq_eq_true he
          subst this
          cases h
          refine ⟨i, hi, rfl, ?_, hc.2⟩
          intro e0
          rw [e0] at hc
          exact absurd hc.1 (by decide)
        · exact ih h
    · exact ih h
def cConv (P : Program) (s d : TypeId) (x : Operand) : Option COp :=
  match aoOf x with
  | none => none
  | some o => match P.underlying s, P.underlying d with
    | some (.int _), some (.int k) => some (.toInt k o)
    | some .string, some (.slice e) => if isU8 P e then some (.strToBytes e o) else none
    | some (.slice e), some .string => if isU8 P e then some (.bytesToStr o) else none
    | some .string, some .string => some (.strToStr o)
    | some (.pointer t), some .unsafePointer => match P.info? t with
      | some i => if i.size = 0 then none else some (.toUnsafe o)
      | none => none
    | some .unsafePointer, some (.pointer u) => match P.info? u with
      | some _ => some (.fromUnsafe u (headsOf P u (List.range P.types.size)) o)
      | none => none
    | some (.slice e), some (.slice _) => if Nat.beq s d && isU8 P e then some (.bytesMark o) else none
    | _, _ => none

theorem cConv_ok (r : HR B L φ h w) (hM : ∀ e, P.underlying e = some (.int .u8) → B.M e = true) (ht : TR φ m a) {s d : TypeId} {x : Operand} {c : COp} (hc : cConv P s d x = some c) {va : AV} {h' : H} (he : evalOp L c m h = some (va, h')) :
    DoneV B L P (convert s d (a.eval x)) φ h w va h' := by
  unfold cConv at hc
  split at hc <;> try contradiction
  rename_i o ho
  have hx := aev_ok ht ho
  split at hc <;> try contradiction
  · rename_i k0 k hs hd
    cases hc
    simp only [evalOp] at he
    split at he <;> try contradiction
    rename_i k1 n e1
    cases he
    rw [e1] at hx
    revert hx
    generalize a.eval x = u
    intro hx
    cases hx
    refine .pure r (v' := .int k (k.wrap n)) ?_ (by rw [wrapF_eq]; exact .int _ _)
    simp only [convert, Sem.run_bind, run_underlying hs, run_underlying hd, Result.andThen_ok]
    rfl
  · rename_i e hs hd
    split at hc <;> try contradiction
    rename_i hu
    cases hc
    simp only [evalOp] at he
    split at he <;> try contradiction
    rename_i l e1
    cases he
    rw [e1] at hx
    exact strToBytes_ok r hM hs hd (isU8_ok hu) hx
  · rename_i e hs hd
    split at hc <;> try contradiction
    rename_i hu
    cases hc
    simp only [evalOp] at he
    split at he <;> try contradiction
    · rename_i e1
      cases he
      rw [e1] at hx
      exact nilToStr_ok r hs hd (isU8_ok hu) hx
    · rename_i b o n k ex e1
      split at he <;> try contradiction
      rename_i l hl
      split at he <;> try contradiction
      rename_i s hs'
      cases he
      rw [e1] at hx
      exact bytesToStr_ok r hs hd (isU8_ok hu) hx hl hs'
  · rename_i hs hd
    cases hc
    simp only [evalOp] at he
    split at he <;> try contradiction
    rename_i l e1
    cases he
    rw [e1] at hx
    revert hx
    generalize a.eval x = u
    intro hx
    cases hx with
    | @str _ b hb =>
      refine .pure r (v' := .string b) ?_ (.str hb)
      simp only [convert, Sem.run_bind, run_underlying hs, run_underlying hd, Result.andThen_ok]
      rfl
  · rename_i t hs hd
    split at hc <;> try contradiction
    rename_i i hi
    split at hc <;> try contradiction
    rename_i hsz
    cases hc
    simp only [evalOp] at he
    split at he <;> try contradiction
    rename_i b off e1
    rw [e1] at hx
    split at he <;> try contradiction
    rename_i l T row fr hg
    split at he <;> try contradiction
    rename_i hlt
    have hlt : off < l.length := Nat.le_of_ble_eq_true hlt
    cases he
    revert hx
    generalize a.eval x = u
    intro hx
    cases hx with
    | @ptr _ _ c d hb =>
      obtain ⟨hcl, cs, fz, hw, g1, g2, g3, g4⟩ := r.obj _ c d _ hb hg
      exact .pure r (Go.Lib.run_to_unsafe (cells := cs.size) (e := T) w ⟨c, d.1 + off, none⟩ hs hd hi hsz (by simp [World.shape?, hw]) (by simp only; omega)) (.ptr hb)
  · rename_i u hs hd
    split at hc <;> try contradiction
    rename_i i hi
    cases hc
    simp only [evalOp] at he
    split at he <;> try contradiction
    rename_i b off e1
    rw [e1] at hx
    split at he <;> try contradiction
    rename_i l T fr hg
    split at he <;> try contradiction
    rename_i n hlook
    split at he <;> try contradiction
    rename_i hcond
    simp only [Bool.and_eq_true] at hcond
    have h1 := Nat.eq_of_beq_eq_true hcond.1
    have h3 := Nat.eq_of_beq_eq_true hcond.2
    subst h1
    cases he
    obtain ⟨i', hi', e4, hn0, hl⟩ := headsOf_ok hlook
    revert hx
    generalize a.eval x = uv
    intro hx
    cases hx with
    | @ptr _ _ c d hb =>
      obtain ⟨hcl, cs, fz, hw, g1, g2, g3, g4⟩ := r.obj _ c d _ hb hg
      obtain ⟨e2, e3⟩ := g2.2 rfl
      have hcell : P.cellsOf T = n := by simp [Program.cellsOf, hi', e4]
      have hdiv : cs.size / P.cellsOf T = 1 := by rw [hcell, e3, h3]; exact Nat.div_self (Nat.pos_of_ne_zero hn0)
      exact .pure r (Go.Lib.run_from_unsafe (cells := cs.size) (e := T) w ⟨c, d.1 + 0, none⟩ hs hd hi (by simp [World.shape?, hw]) (by rw [hdiv, e2]; exact hl)) (.ptr hb)
  · rename_i e e' hs hd
    split at hc <;> try contradiction
    rename_i hu
    simp only [Bool.and_eq_true] at hu
    have hsd := Nat.eq_of_beq_eq_true hu.1
    subst hsd
    cases hc
    simp only [evalOp] at he
    split at he <;> try contradiction
    rename_i b o n k ex e1
    rw [e1] at hx
    split at he <;> try contradiction
    rename_i l T row fr hg
    cases he
    exact bytesMark_ok r hs (isU8_ok hu.2) hx hg

/-! ### builtins -/
def isSeq (P : Program) (t : TypeId) : Bool :=
  match P.underlying t with
  | some (.slice _) => true
  | some .string => true
  | _ => false
theorem isSeq_ok {t : TypeId} (hs : isSeq P t = true) : (∃ e', P.underlying t = some (.slice e')) ∨ P.underlying t = some .string := by
  unfold isSeq at hs
  split at hs <;> try contradiction
  · rename_i hu; exact .inl ⟨_, hu⟩
  · rename_i hu; exact .inr hu

def cBuiltin (P : Program) (b : Builtin) (args : List Operand) (ts : List TypeId) : Option COp :=
  match b, args, ts with
  | .len, [x], t :: _ => match aoOf x, P.underlying t with
    | some o, some .string => some (.lenStr o)
    | some o, some (.slice _) => some (.lenRow o)
    | some o, some (.map _ _) => some (.lenMap o)
    | some _, some (.array n _) => some (.lenArr n)
    | _, _ => none
  | .cap, [x], t :: _ => match aoOf x, P.underlying t with
    | some o, some (.slice _) => some (.capRow o)
    | _, _ => none
  | .append, [s, x], [t, u] => match aoOf s, aoOf x, sliceOf P t, isSeq P u with
    | some s, some x, some e, true => match zeroOf P e, P.info? e with
      | some _, some i => if 0 < i.size then some (.append i.size e i.bytes s x) else none
      | _, _ => none
    | some s, some x, some e, false => match P.underlying u, zeroOf P e, P.info? e with
      | some (.int _), some z, some i => if 0 < i.size then some (.appendZ i.size e i.bytes z s x) else none
      | _, _, _ => none
    | _, _, _, _ => none
  | .copy, [d, s], [t, _] => match aoOf d, aoOf s, sliceOf P t with
    | some d, some s, some e => match P.info? e with
      | some i => some (.copy i.size d s)
      | none => none
    | _, _, _ => none
  | .min, [x, y], _ => match aoOf x, aoOf y with
    | some x, some y => some (.minmax false x y)
    | _, _ => none
  | .max, [x, y], _ => match aoOf x, aoOf y with
    | some x, some y => some (.minmax true x y)
    | _, _ => none
  | .clear, [x], [t] => match aoOf x, sliceOf P t with
    | some x, some e => match zeroOf P e with
      | some z => some (.clear z x)
      | none => none
    | _, _ => none
  | .unsafeSliceData, [x], _ => (aoOf x).map .sliceData
  | .unsafeString, [p, n], [pt, _] => match aoOf p, aoOf n, P.underlying pt with
    | some p, some n, some (.pointer T) => if P.cellsOf T == 1 then some (.unsafeStr T p n) else none
    | _, _, _ => none
  | _, _, _ => none

theorem list_args2 {args : Array Operand} {x y : Operand} (h : args.toList = [x, y]) : args = #[x, y] := by
  cases args; simp at h; subst h; rfl
theorem list_args1 {args : Array Operand} {x : Operand} (h : args.toList = [x]) : args = #[x] := by
  cases args; simp at h; subst h; rfl

theorem cBuiltin_ok (r : HR B L φ h w) (ht : TR φ m a) {b : Builtin} {args : Array Operand} {ts : Array TypeId} {ty : TypeId} {cs : Array Bool} {c : COp} (hc : cBuiltin P b args.toList ts.toList = some c) {va : AV} {h' : H} (he : evalOp L c m h = some (va, h')) :
    DoneN B L P (builtin b ts ty cs (args.map a.eval)) φ h w va h' := by
  have one : ∀ {x : Operand}, args.toList = [x] → args.map a.eval = #[a.eval x] := fun e => by rw [list_args1 e]; simp
  have two : ∀ {x y : Operand}, args.toList = [x, y] → args.map a.eval = #[a.eval x, a.eval y] := fun e => by rw [list_args2 e]; simp
  unfold cBuiltin at hc
  split at hc <;> try contradiction
  · rename_i x t tl ha hts
    rw [one ha]
    have hts0 : ts[0]? = some t := by rw [← Array.getElem?_toList, hts]; rfl
    have lenRun : ∀ (d : TypeDesc) (u : Value) (n : Int), P.underlying t = some d → (Builtin.len_ ts ty #[u]).run P w = .ok (.int .i64 n) w → va = .int .i64 n → h' = h → DoneN B L P (builtin .len ts ty cs #[u]) φ h w va h' := by
      intro d u n _ h1 h2 h3
      subst h2; subst h3
      exact next_V (DoneV.pure r h1 (.int _ _))
    split at hc <;> try contradiction
    · rename_i o ho hu
      cases hc
      have hx := aev_ok ht ho
      simp only [evalOp] at he
      split at he <;> try contradiction
      rename_i s e1
      rw [e1] at hx
      cases he
      revert hx
      generalize a.eval x = u
      intro hx
      cases hx with
      | @str _ b hb =>
        have hl : s.length = b.size := by rw [← hb]; simp
        exact lenRun _ _ _ hu (by simp [Builtin.len_, hts0, run_underlying hu, goInt, hl]) rfl rfl
    · rename_i o e ho hu
      cases hc
      have hx := aev_ok ht ho
      simp only [evalOp] at he
      revert hx
      generalize a.eval x = u
      intro hx
      split at he <;> try contradiction
      all_goals (rename_i e1; rw [e1] at hx; cases he; cases hx)
      all_goals exact lenRun _ _ _ hu (by simp [Builtin.len_, hts0, run_underlying hu, goInt]) rfl rfl
    · rename_i o k e ho hu
      cases hc
      have hx := aev_ok ht ho
      simp only [evalOp] at he
      revert hx
      generalize a.eval x = u
      intro hx
      split at he <;> try contradiction
      · rename_i e1
        rw [e1] at hx
        cases he; cases hx
        exact lenRun _ _ _ hu (by simp [Builtin.len_, hts0, run_underlying hu, goInt]) rfl rfl
      · rename_i b e1
        rw [e1] at hx
        split at he <;> try contradiction
        rename_i es hg
        cases he
        cases hx with
        | @map _ c d hb =>
          obtain ⟨ms, clock, hw, her⟩ := r.obj _ c d _ hb hg
          have hl : es.length = ms.size := by rw [her.length]; simp
          exact lenRun _ _ _ hu (by simp [Builtin.len_, hts0, run_underlying hu, goInt, run_getObj_map _ _ _ _ hw, hl]) rfl rfl
    · rename_i n e ho hu
      cases hc
      simp only [evalOp] at he
      cases he
      exact lenRun _ _ _ hu (by simp [Builtin.len_, hts0, run_underlying hu, goInt]) rfl rfl
  · rename_i x t tl ha hts
    rw [one ha]
    have hts0 : ts[0]? = some t := by rw [← Array.getElem?_toList, hts]; rfl
    split at hc <;> try contradiction
    rename_i o e ho hu
    cases hc
    have hx := aev_ok ht ho
    simp only [evalOp] at he
    revert hx
    generalize a.eval x = u
    intro hx
    split at he <;> try contradiction
    · rename_i e1
      rw [e1] at hx
      cases he; cases hx
      exact next_V (DoneV.pure r (v' := .int .i64 0) (by simp [builtin, Builtin.cap_, hts0, run_underlying hu, goInt]) (.int _ _))
    · rename_i b' o' n' c' ex' e1
      rw [e1] at hx
      split at he <;> try contradiction
      rename_i hex
      have hex := Nat.eq_of_beq_eq_true hex
      cases he
      cases hx with
      | @slice _ _ _ _ k' c1 _ d hb h1 h2 h3 h4 =>
        have hk := h3 hex
        subst hk
        exact next_V (DoneV.pure r (v' := .int .i64 (.ofNat k')) (by simp [builtin, Builtin.cap_, hts0, run_underlying hu, goInt]) (.int _ _))
  · rename_i s x t u ha hts
    rw [two ha]
    have hts : ts = #[t, u] := by cases ts; simp at hts; subst hts; rfl
    subst hts
    split at hc <;> try contradiction
    · rename_i so xo e h1 h2 h3 h4
      split at hc <;> try contradiction
      rename_i z i hz hi
      split at hc <;> try contradiction
      rename_i hpos
      cases hc
      simp only [evalOp] at he
      obtain ⟨i', zv, hi', hzv, hzr, hsz⟩ := zeroOf_ok hz
      rw [hi] at hi'
      cases hi'
      exact next_V (append_ok r (sliceOf_ok h3) (isSeq_ok h4) hi hzv (by rw [hzr.length, hsz]) (vrs_cells (hzr.2 φ) hzr.1) hpos (aev_ok ht h1) (aev_ok ht h2) he)
    · rename_i so xo e h1 h2 h3 h4
      split at hc <;> try contradiction
      rename_i kn z i hu hz hi
      split at hc <;> try contradiction
      rename_i hpos
      cases hc
      simp only [evalOp] at he
      obtain ⟨i', zv, hi', hzv, hzr, hsz⟩ := zeroOf_ok hz
      rw [hi] at hi'
      cases hi'
      split at he <;> try contradiction
      rename_i b o len cap ex n e1 e2
      split at he <;> try contradiction
      rename_i old q1 q2 q3 q4 q5 q6
      cases he
      have hroom : ¬ len + n ≤ cap := fun e => by rw [Nat.ble_eq_true_of_le e] at q3; cases q3
      exact next_V (appendZ_ok r (sliceOf_ok h3) hu hi hzv hzr hsz hpos e1 (aev_ok ht h1) (aev_ok ht h2) e2 (Nat.eq_of_beq_eq_true q1) (Nat.le_of_ble_eq_true q2) (by omega) (Nat.le_of_ble_eq_true q4) (Nat.le_of_ble_eq_true q5) q6)
  · rename_i d s t u ha hts
    rw [two ha]
    have hts : ts = #[t, u] := by cases ts; simp at hts; subst hts; rfl
    subst hts
    split at hc <;> try contradiction
    rename_i so xo e h1 h2 h3
    split at hc <;> try contradiction
    rename_i i hi
    cases hc
    simp only [evalOp] at he
    exact next_V (copy_ok r (sliceOf_ok h3) hi (aev_ok ht h1) (aev_ok ht h2) he)
  · rename_i x y ha
    rw [two ha]
    split at hc <;> try contradiction
    rename_i xo yo h1 h2
    cases hc
    have hx := aev_ok ht h1
    have hy := aev_ok ht h2
    simp only [evalOp] at he
    split at he <;> try contradiction
    rename_i k i k' j e1 e2
    rw [e1] at hx
    rw [e2] at hy
    cases he
    revert hx hy
    generalize a.eval x = u
    generalize a.eval y = v
    intro hx hy
    cases hx; cases hy
    refine next_V (.pure r (v' := .int k (if j < i then j else i)) rfl ?_)
    rw [iBle_eq]
    by_cases hij : i ≤ j
    · rw [decide_eq_true hij, if_neg (by omega)]; exact .int _ _
    · rw [decide_eq_false hij, if_pos (by omega)]; exact .int _ _
  · rename_i x y ha
    rw [two ha]
    split at hc <;> try contradiction
    rename_i xo yo h1 h2
    cases hc
    have hx := aev_ok ht h1
    have hy := aev_ok ht h2
    simp only [evalOp] at he
    split at he <;> try contradiction
    rename_i k i k' j e1 e2
    rw [e1] at hx
    rw [e2] at hy
    cases he
    revert hx hy
    generalize a.eval x = u
    generalize a.eval y = v
    intro hx hy
    cases hx; cases hy
    refine next_V (.pure r (v' := .int k (if j > i then j else i)) rfl ?_)
    rw [iBle_eq]
    by_cases hij : j ≤ i
    · rw [decide_eq_true hij, if_neg (by omega)]; exact .int _ _
    · rw [decide_eq_false hij, if_pos (by omega)]; exact .int _ _
  · rename_i x t ha hts
    rw [one ha]
    have hts : ts = #[t] := by cases ts; simp at hts; subst hts; rfl
    subst hts
    split at hc <;> try contradiction
    rename_i xo e h1 h2
    split at hc <;> try contradiction
    rename_i z hz
    cases hc
    have hx := aev_ok ht h1
    simp only [evalOp] at he
    split at he <;> try contradiction
    rename_i b o n k ex e1
    rw [e1] at hx
    split at he <;> try contradiction
    rename_i h1' hset
    cases he
    obtain ⟨i, zv, hi, hzv, hzr, hsz⟩ := zeroOf_ok hz
    exact next_V (clear_ok r (sliceOf_ok h2) hi hzv hzr hx hset)
  · rename_i x ha
    rw [one ha]
    obtain ⟨xo, h1, rfl⟩ := Option.map_eq_some_iff.1 hc
    have hx := aev_ok ht h1
    simp only [evalOp] at he
    split at he <;> try contradiction
    · rename_i e1
      rw [e1] at hx
      cases he
      exact next_V (sliceData_nil r hx)
    · rename_i b o n k ex e1
      rw [e1] at hx
      split at he <;> try contradiction
      rename_i hn
      cases he
      exact next_V (sliceData_ok r hx (Nat.le_of_ble_eq_true hn))
  · rename_i p n pt u ha hts
    rw [two ha]
    have hts : ts = #[pt, u] := by cases ts; simp at hts; subst hts; rfl
    subst hts
    split at hc <;> try contradiction
    rename_i po no T h1 h2 hu
    split at hc <;> try contradiction
    rename_i hcell
    have hcell : P.cellsOf T = 1 := by simpa using hcell
    cases hc
    have hp := aev_ok ht h1
    have hn := aev_ok ht h2
    simp only [evalOp] at he
    split at he <;> try contradiction
    rename_i k hk
    split at he
    · rename_i h0
      have h0 := Nat.eq_of_beq_eq_true h0
      subst h0
      split at he <;> try contradiction
      rename_i e1
      rw [e1] at hp
      cases he
      exact next_V (unsafeStr_nil r hp hn hk)
    · rename_i h0
      have h0 : k ≠ 0 := fun e => by subst e; cases h0
      split at he <;> try contradiction
      rename_i b o e1
      rw [e1] at hp
      split at he <;> try contradiction
      rename_i l T' row fr hg
      split at he <;> try contradiction
      rename_i hT
      simp only [Bool.and_eq_true] at hT
      have hT1 := Nat.eq_of_beq_eq_true hT.1
      have hT2 := Nat.le_of_ble_eq_true hT.2
      subst hT1
      split at he <;> try contradiction
      rename_i rr hr
      split at he <;> try contradiction
      rename_i s hs
      cases he
      exact next_V (unsafeStr_ok r hu hcell hp hn hk h0 hT2 hg hr hs)

end
end Go.Clean

namespace Go.Clean

section
variable {B : Base} {L : Laid} {P : Program} {φ : Phi} {h : H} {w : World} {m : Tr AV} {a : Act}

def fieldOf (P : Program) (t : TypeId) (f : Nat) : Option Field :=
  match P.underlying t with
  | some (.struct fs) => fs[f]?
  | _ => none
theorem fieldOf_ok {t : TypeId} {f : Nat} {fd : Field} (h : fieldOf P t f = some fd) : ∃ fs, P.underlying t = some (.struct fs) ∧ fs[f]? = some fd := by
  unfold fieldOf at h
  split at h <;> try contradiction
  rename_i fs hu
  exact ⟨fs, hu, h⟩

/-- the functions internal/bytealg.IndexByteString, internal/abi.NoEscape; slices.overlaps at one type, with the elements' type -/
structure Ixs where
  idx : Nat
  noEsc : Nat
  ov : Option (Nat × Nat)
def OvOk (B : Base) (P : Program) (f T : Nat) : Prop :=
  B.M T = false ∧ ∃ tS tR n, P.underlying tS = some (.slice T) ∧ (∀ w, (sizeOf T).run P w = .ok n w) ∧
    ∀ (args : Array Value) (w : World), (callFunc f args).run P w = ((Extern.SlicesOverlaps.overlaps #[tS, tS] #[tR] args).run P w).andThen fun v w' => .ok (.value v) w'
def IxOk (B : Base) (P : Program) (ix : Ixs) : Prop :=
  (∀ e, P.underlying e = some (.int .u8) → B.M e = true) ∧ (∀ f T, ix.ov = some (f, T) → OvOk B P f T) ∧
  (∀ (args : Array Value) (w : World), (callFunc ix.idx args).run P w = ((Extern.BytealgIndexByte.indexByte args).run P w).andThen fun v w' => .ok (.value v) w') ∧
  ∀ (x : Value) (w : World), (callFunc ix.noEsc #[x]).run P w = .ok (.value x) w

def compOp (P : Program) (ix : Ixs) (op : Op) : Option COp :=
  match op with
  | .move x => (aoOf x).map .move
  | .assign x => (aoOf x).map .move
  | .pick c x y => match aoOf c, aoOf x, aoOf y with
    | some c, some x, some y => some (.pick c x y)
    | _, _, _ => none
  | .alloc t => (zeroOf P t).map (.alloc t)
  | .box t x => (aoOf x).map (.box t)
  | .build t ps => cBuild P t ps.toList
  | .buildSlice t n ps => match cBuildSlice0 P t n ps.toList with
    | some c => some c
    | none => cBuildSlice P t n ps.toList
  | .load t x => match aoOf x, P.underlying t, P.info? t with
    | some x, some d, some i => some (.load (aggB d) i.size x)
    | _, _, _ => none
  | .store t x y => match aoOf x, aoOf y, P.info? t with
    | some x, some y, some i => some (.store i.size x y)
    | _, _, _ => none
  | .nilCheck x => (aoOf x).map .nilCheck
  | .binOp op t x y _ => cBin P op t x y
  | .unOp op _ x => (aoOf x).map (.un op)
  | .convert s d x => cConv P s d x
  | .makeInterface t x => match P.underlying t, aoOf x with
    | some (.interface _), _ => none
    | some _, some x => some (.makeIface t x)
    | _, _ => none
  | .makeFunc (.func f) x y => match aosOf x.toList, aosOf y.toList with
    | some x, some y => some (.makeFunc f x y)
    | _, _ => none
  | .makeMap _ none => some .makeMap
  | .makeSlice t l c => match sliceOf P t, aoOf l, aoOf c with
    | some e, some l, some c => match zeroOf P e with
      | some z => some (.makeSlice e z (P.bytesOf e) l c)
      | none => none
    | _, _, _ => none
  | .slice t x lo hi mx => match aoOf x, aoO lo, aoO hi, aoO mx with
    | some x, some lo, some hi, some mx => match P.underlying t with
      | some .string => some (.slice .str x lo hi mx)
      | some (.slice e) => match P.info? e with
        | some i => some (.slice (.row i.size) x lo hi mx)
        | none => none
      | some (.array n e) => match P.info? e with
        | some i => some (.slice (.arr n i.size) x lo hi mx)
        | none => none
      | _ => none
    | _, _, _, _ => none
  | .fieldAddr t x f => match aoOf x, fieldOf P t f with
    | some x, some fd => match P.info? fd.type with
      | some i => if i.size = 0 then none else some (.fieldAddr fd.offset x)
      | none => none
    | _, _ => none
  | .field t x f => match aoOf x, fieldOf P t f with
    | some x, some fd => match P.underlying fd.type, P.info? fd.type with
      | some d, some i => some (.field (aggB d) fd.offset i.size x)
      | _, _ => none
    | _, _ => none
  | .indexAddr t x i => match aoOf x, aoOf i with
    | some x, some i => match P.underlying t with
      | some (.array n e) => match P.info? e with
        | some ie => some (.idxArr n ie.size x i)
        | none => none
      | some (.slice e) => match P.info? e with
        | some ie => some (.idxRow ie.size x i)
        | none => none
      | _ => none
    | _, _ => none
  | .index t x i => match P.underlying t, aoOf x, aoOf i with
    | some .string, some x, some i => some (.idxStr x i)
    | some (.array n e), some x, some i => match P.underlying e, P.info? e with
      | some d, some ie => some (.idxAgg (aggB d) n ie.size x i)
      | _, _ => none
    | _, _, _ => none
  | .lookup t x i ok => match P.underlying t, aoOf x, aoOf i with
    | some (.map k e), some x, some i => match kkOf P 20 k, zeroV P e with
      | some kk, some z => if kk.key then some (.lookup kk z x i ok) else none
      | _, _ => none
    | _, _, _ => none
  | .mapUpdate t mm k v => match P.underlying t, aoOf mm, aoOf k, aoOf v with
    | some (.map kt _), some mm, some k, some v => match kkOf P 20 kt with
      | some kk => if kk.key then some (.mapUpdate kk mm k v) else none
      | none => none
    | _, _, _, _ => none
  | .insert t mm k v => match P.underlying t, aoOf mm, aoOf k, aoOf v with
    | some (.map kt _), some mm, some k, some v => match kkOf P 20 kt with
      | some kk => if kk.key then some (.mapUpdate kk mm k v) else none
      | none => none
    | _, _, _, _ => none
  | .extract x i => (aoOf x).map (.extract · i)
  | .call c => match c.callee with
    | .builtin b => cBuiltin P b c.args.toList c.argTypes.toList
    | .value (.func f) => if f = ix.idx then match c.args.toList with
      | [x, y] => match aoOf x, aoOf y with
        | some x, some y => some (.idxByteStr x y)
        | _, _ => none
      | _ => none
      else if f = ix.noEsc then match c.args.toList with
      | [x] => (aoOf x).map .move
      | _ => none
      else match ix.ov, c.args.toList with
      | some (g, T), [x, y] => match Nat.beq g f, aoOf x, aoOf y with
        | true, some x, some y => some (.overlaps T x y)
        | _, _, _ => none
      | _, _ => none
    | _ => none
  | _ => none

theorem ptr_inv {b o : Nat} {u : Value} (hx : VR φ (.ptr b o) u) : ∃ c d, φ b = some (c, d) ∧ u = .pointer (some ⟨c, d.1 + o, none⟩) := by
  cases hx with
  | @ptr _ _ c d hb => exact ⟨c, d, hb, rfl⟩

theorem idxArr_run {t e : TypeId} {n : Nat} {ie : TypeInfo} (hu : P.underlying t = some (.array n e)) (hie : P.info? e = some ie) {i : Nat} (hlt : i < n) (k : IntKind) (b o : Nat) :
    (Instr.indexAt t (.pointer (some ⟨b, o, none⟩)) (.int k (i : Int))).run P w = .ok (.pointer (some ⟨b, o + i * ie.size, none⟩)) w := by
  unfold Instr.indexAt
  simp only [asIntOf, Sem.run_bind, Sem.run_pure, Result.andThen_ok, run_underlying hu, Instr.sureAddr]
  rw [if_pos ⟨by omega, by omega⟩]
  simp [run_size hie, add_zero_off]

theorem mapUpd_ok (r : HR B L φ h w) (ht : TR φ m a) {t : TypeId} {mm k v : Operand} {c : COp} (hc : (match P.underlying t, aoOf mm, aoOf k, aoOf v with
    | some (.map kt _), some mm, some k, some v => (match kkOf P 20 kt with
      | some kk => if kk.key then some (COp.mapUpdate kk mm k v) else none
      | none => none)
    | _, _, _, _ => none) = some c) {va : AV} {h' : H} (he : evalOp L c m h = some (va, h')) :
    DoneN B L P (do Instr.mapUpdate t (a.eval mm) (a.eval k) (a.eval v); pure .skip) φ h w va h' := by
  split at hc <;> try contradiction
  rename_i kt e mo ko vo hu h1 h2 h3
  split at hc <;> try contradiction
  rename_i kk hk
  split at hc <;> try contradiction
  rename_i hp
  cases hc
  have hm := aev_ok ht h1
  simp only [evalOp] at he
  split at he <;> try contradiction
  rename_i b e1
  rw [e1] at hm
  split at he <;> try contradiction
  rename_i es hg
  split at he <;> try contradiction
  rename_i hch
  split at he <;> try contradiction
  rename_i es' hes
  cases he
  exact next_U (mapUpdate_ok r (by decide : 20 ≤ 10000) hu hk hp hm (aev_ok ht h2) (aev_ok ht h3) hg hch hes)

theorem overlaps_ok {ix : Ixs} (hix : IxOk B P ix) {o : Oper} {cl : Call} {f : Nat} (hcal : cl.callee = .value (.func f)) (r : HR B L φ h w) (ht : TR φ m a) {c : COp}
    (hc : (match ix.ov, cl.args.toList with
      | some (g, T), [x, y] => match Nat.beq g f, aoOf x, aoOf y with
        | true, some x, some y => some (COp.overlaps T x y)
        | _, _, _ => none
      | _, _ => none) = some c) {va : AV} {h' : H} (he : evalOp L c m h = some (va, h')) :
    DoneN B L P (resolve a.eval cl o.type >>= fun d => invoke d.target d.args) φ h w va h' := by
  split at hc <;> try contradiction
  rename_i g T x y hov hargs
  split at hc <;> try contradiction
  rename_i xo yo hg h1 h2
  have hg := Nat.eq_of_beq_eq_true hg
  subst hg
  cases hc
  have hx := aev_ok ht h1
  have hy := aev_ok ht h2
  simp only [evalOp] at he
  split at he <;> try contradiction
  rename_i b o1 n1 k1 e1 b' o2 n2 k2 e2 q1 q2
  rw [q1] at hx
  rw [q2] at hy
  split at he <;> try contradiction
  rename_i l1 T1 row1 y0 l2 T2 row2 fr2 hne hb1 hb2
  split at he <;> try contradiction
  rename_i hT
  have hT := Nat.eq_of_beq_eq_true hT
  subst hT
  cases he
  obtain ⟨hM, tS, tR, n, hS, hsz, hrun0⟩ := hix.2.1 _ _ hov
  have hargs' : cl.args.map a.eval = #[a.eval x, a.eval y] := by rw [list_args2 hargs]; simp
  have hf : a.eval (.func g) = .func (.func g) #[] #[] := rfl
  have hne : b ≠ b' := fun e => by subst e; rw [Nat.beq_refl] at hne; cases hne
  have hrun : (resolve a.eval cl o.type >>= fun d => invoke d.target d.args).run P w = .ok (.value (.bool false)) w := by
    simp only [resolve, hcal, Sem.run_bind, hargs', hf, Deferred.ofValue, Sem.run_pure, Result.andThen_ok, invoke]
    rw [show (#[] ++ #[a.eval x, a.eval y] ++ #[] : Array Value) = #[a.eval x, a.eval y] by simp, hrun0]
    revert hx hy
    generalize a.eval x = u
    generalize a.eval y = v
    intro hx hy
    cases hx with
    | @slice _ _ _ _ k1' c1 _ d1 hp1 _ _ _ _ =>
      cases hy with
      | @slice _ _ _ _ k2' c2 _ d2 hp2 _ _ _ _ =>
        obtain ⟨_, cs1, fz1, hw1, _, _, _, g4⟩ := r.obj _ _ _ _ hp1 hb1
        obtain ⟨_, cs2, fz2, hw2, f1, _, _, _⟩ := r.obj _ _ _ _ hp2 hb2
        have hcc : c1 ≠ c2 := by
          intro e
          subst e
          exact hne (r.inj _ _ _ _ _ _ _ hp1 hp2 hb1 hb2 rfl rfl)
        have hfz := (g4.1 rfl).2 (by rw [r.marks.1]; exact hM)
        have hf1 : ∀ off, w.frozen? { block := c1, off := off } = false := by
          intro off
          simp only [World.frozen?, hw1]
          rw [Bool.eq_false_iff]
          intro e
          simp only [Bool.and_eq_true, decide_eq_true_eq] at e
          omega
        rw [Go.Lib.run_overlaps_apart w tS tR T1 hS n hsz ⟨c1, d1.1 + o1, none⟩ ⟨c2, d2.1 + o2, none⟩ _ _ _ _ hcc T1 T2 cs1.size cs2.size (by simp [World.shape?, hw1]) (by simp [World.shape?, hw2])
          (by simp at f1; omega) (hf1 _) (hf1 _)]
        rfl
  exact ⟨_, w, φ, hrun, .inl ⟨_, rfl, .bool _⟩, r, .refl _ _ _⟩

theorem compOp_ok {ix : Ixs} (hix : IxOk B P ix)
    (r : HR B L φ h w) (ht : TR φ m a) {o : Oper} {c : COp} (hc : compOp P ix o.op = some c) {va : AV} {h' : H} (he : evalOp L c m h = some (va, h')) :
    DoneN B L P (execOp a.eval o) φ h w va h' := by
  unfold compOp at hc
  unfold execOp
  split at hc <;> try contradiction
  all_goals rename_i hop
  all_goals simp only [hop]
  · obtain ⟨x, hx, rfl⟩ := Option.map_eq_some_iff.1 hc
    cases he
    exact next_same r (aev_ok ht hx)
  · obtain ⟨x, hx, rfl⟩ := Option.map_eq_some_iff.1 hc
    cases he
    exact next_same r (aev_ok ht hx)
  · split at hc <;> try contradiction
    rename_i co xo yo h1 h2 h3
    cases hc
    have hcv := aev_ok ht h1
    simp only [evalOp] at he
    split at he <;> try contradiction
    · rename_i e1
      rw [e1] at hcv
      cases he
      revert hcv
      generalize a.eval _ = u
      intro hcv
      cases hcv
      exact next_same r (aev_ok ht h2)
    · rename_i e1
      rw [e1] at hcv
      cases he
      revert hcv
      generalize a.eval _ = u
      intro hcv
      cases hcv
      exact next_same r (aev_ok ht h3)
  · obtain ⟨z, hz, rfl⟩ := Option.map_eq_some_iff.1 hc
    obtain ⟨i, zv, hi, hzv, hzr, hsz⟩ := zeroOf_ok hz
    cases he
    exact next_V (alloc_ok r hi hzv hzr)
  · obtain ⟨x, hx, rfl⟩ := Option.map_eq_some_iff.1 hc
    simp only [evalOp] at he
    split at he <;> try contradiction
    rename_i hcl
    cases he
    exact next_V (box_ok r (aev_ok ht hx) hcl)
  · exact next_V (cBuild_ok r ht hc he)
  · split at hc
    · rename_i c' hc'
      cases hc
      exact next_V (cBuildSlice0_ok r hc' he)
    · exact next_V (cBuildSlice_ok r ht hc he)
  · split at hc <;> try contradiction
    rename_i x d i hx hd hi
    cases hc
    have hxv := aev_ok ht hx
    simp only [evalOp] at he
    split at he <;> try contradiction
    · rename_i b o e1
      rw [e1] at hxv
      split at he <;> try contradiction
      rename_i l T row fr hg
      split at he <;> try contradiction
      rename_i v hv
      cases he
      exact next_V (load_ok r hd hi rfl hxv hg hv)
    · rename_i g o e1
      rw [e1] at hxv
      split at he <;> try contradiction
      rename_i hag
      split at he <;> try contradiction
      rename_i v hv
      cases he
      exact next_V (loadG_ok r hd hag hxv hv)
  · split at hc <;> try contradiction
    rename_i x y i hx hy hi
    cases hc
    have hxv := aev_ok ht hx
    have hyv := aev_ok ht hy
    simp only [evalOp] at he
    split at he <;> try contradiction
    rename_i b o e1
    rw [e1] at hxv
    split at he <;> try contradiction
    rename_i hlen hcl
    have hlen := Nat.eq_of_beq_eq_true hlen
    split at he <;> try contradiction
    rename_i h1' hset
    cases he
    obtain ⟨c, d, hb, hu⟩ := ptr_inv hxv
    rw [hu]
    obtain ⟨w', ψ, hrun, hr', hst⟩ := set_ok (P := P) r hb hyv.cells hcl hset
    refine next_U ⟨w', ψ, ?_, hr', hst⟩
    have hl := hyv.cells.length
    rw [hlen, Array.length_toList] at hl
    simp [Instr.storeAt, Instr.sureAddr, storeVar, sizeOf, typeInfo, hi, ← hl, hrun]
  · obtain ⟨x, hx, rfl⟩ := Option.map_eq_some_iff.1 hc
    have hxv := aev_ok ht hx
    simp only [evalOp] at he
    revert hxv
    generalize a.eval _ = u
    intro hxv
    split at he <;> try contradiction
    all_goals
      rename_i e1
      rw [e1] at hxv
      cases he
      cases hxv
      refine next_same r ?_
    · exact .ptr (by assumption)
    · exact .gptr _ _
    · exact .func (by assumption) (by assumption)
  · exact next_V (cBin_ok r ht hc he)
  · obtain ⟨x, hx, rfl⟩ := Option.map_eq_some_iff.1 hc
    have hxv := aev_ok ht hx
    simp only [evalOp] at he
    revert hxv
    generalize a.eval _ = u
    intro hxv
    split at he <;> try contradiction
    · rename_i b e1
      rw [e1] at hxv
      cases he
      cases hxv
      exact next_V (.pure r (v' := .bool !b) rfl (.bool _))
    · rename_i k n e1
      rw [e1] at hxv
      cases he
      cases hxv
      refine next_V (.pure r (v' := .int k (k.wrap (0 - n))) ?_ (by rw [wrapF_eq]; exact .int _ _))
      simp [Op.unary, Op.intArith]
    · rename_i n e1
      rw [e1] at hxv
      split at he <;> try contradiction
      rename_i hn
      cases he
      cases hxv
      exact next_V (.pure r (by rw [not_ok n (Nat.le_of_ble_eq_true hn)]; rfl) (.int _ _))
  · exact next_V (cConv_ok r hix.1 ht hc he)
  · split at hc <;> try contradiction
    rename_i d x h1 h2 h3
    cases hc
    cases he
    refine next_V (.pure r (v' := .iface _ _) ?_ (.iface (aev_ok ht h3)))
    unfold Instr.makeInterface
    rw [Sem.run_bind, run_underlying h2, Result.andThen_ok]
    cases d <;> first | rfl | exact (h1 _ rfl).elim
  · split at hc <;> try contradiction
    rename_i x y h1 h2
    cases hc
    cases he
    refine next_V (.pure r rfl (.func ?_ ?_))
    · rw [Array.toList_map]; exact aevs_ok ht h1
    · rw [Array.toList_map]; exact aevs_ok ht h2
  · cases hc
    cases he
    exact next_V (makeMap_ok r)
  · split at hc <;> try contradiction
    rename_i e lo co h1 h2 h3
    split at hc <;> try contradiction
    rename_i z hz
    cases hc
    obtain ⟨i, zv, hi, hzv, hzr, hsz⟩ := zeroOf_ok hz
    simp only [evalOp] at he
    split at he <;> try contradiction
    rename_i n k hn hk
    split at he <;> try contradiction
    rename_i b1 b2 b3
    cases he
    refine next_V (makeSlice_ok r (sliceOf_ok h1) hi hzv hzr hsz (aev_ok ht h2) (aev_ok ht h3) hn hk (Nat.le_of_ble_eq_true b1) ?_ (Nat.le_of_ble_eq_true b3))
    have := Nat.le_of_ble_eq_true b2
    simpa [Program.bytesOf, hi] using this
  · split at hc <;> try contradiction
    rename_i xo lo hio mo h1 h2 h3 h4
    have hx := aev_ok ht h1
    have hlo := aevO_ok ht h2
    have hhi := aevO_ok ht h3
    have hmx := aevO_ok ht h4
    split at hc <;> try contradiction
    · rename_i hu
      cases hc
      simp only [evalOp] at he
      split at he <;> try contradiction
      rename_i v hv
      cases he
      exact next_V (sliceStr_ok r hu hx hlo hhi hmx hv)
    · rename_i e hu
      split at hc <;> try contradiction
      rename_i i hi
      cases hc
      simp only [evalOp] at he
      split at he <;> try contradiction
      rename_i v hv
      cases he
      exact next_V (sliceRow_ok r hu hi hx hlo hhi hmx hv)
    · rename_i n e hu
      split at hc <;> try contradiction
      rename_i i hi
      cases hc
      simp only [evalOp] at he
      split at he <;> try contradiction
      rename_i v hv
      cases he
      exact next_V (sliceArr_ok r hu hi hx hlo hhi hmx hv)
  · split at hc <;> try contradiction
    rename_i x fd h1 h2
    split at hc <;> try contradiction
    rename_i i hi
    split at hc <;> try contradiction
    rename_i hsz
    cases hc
    obtain ⟨fs, hu, hf⟩ := fieldOf_ok h2
    have hx := aev_ok ht h1
    simp only [evalOp] at he
    revert hx
    generalize a.eval _ = u
    intro hx
    split at he <;> try contradiction
    · rename_i b o e1
      rw [e1] at hx
      cases he
      cases hx with
      | @ptr _ _ c d hb => exact next_V (.pure r (fieldAddr_run hu hf rfl hi hsz _ _ w) (by rw [Nat.add_assoc]; exact .ptr hb))
    · rename_i b o e1
      rw [e1] at hx
      cases he
      cases hx
      exact next_V (.pure r (fieldAddr_run hu hf rfl hi hsz _ _ w) (.gptr _ _))
  · split at hc <;> try contradiction
    rename_i x fd h1 h2
    split at hc <;> try contradiction
    rename_i d i hd hi
    cases hc
    obtain ⟨fs, hu, hf⟩ := fieldOf_ok h2
    have hx := aev_ok ht h1
    simp only [evalOp] at he
    split at he <;> try contradiction
    rename_i l e1
    rw [e1] at hx
    split at he <;> try contradiction
    rename_i v hv
    cases he
    exact next_V (field_ok r hu hf rfl hd hi hx hv)
  · split at hc <;> try contradiction
    rename_i xo io h1 h2
    have hx := aev_ok ht h1
    have hi' := aev_ok ht h2
    revert hx hi'
    generalize a.eval _ = u
    generalize a.eval _ = v
    intro hx hi'
    split at hc <;> try contradiction
    · rename_i n e hu
      split at hc <;> try contradiction
      rename_i ie hie
      cases hc
      simp only [evalOp] at he
      split at he <;> try contradiction
      rename_i i hi
      obtain ⟨k, e2⟩ := natOf_eq hi
      rw [e2] at hi'
      cases hi'
      split at he <;> try contradiction
      rename_i hlt
      have hlt : i < n := Nat.le_of_ble_eq_true hlt
      have run := idxArr_run hu hie hlt k (w := w)
      split at he <;> try contradiction
      · rename_i b o e1
        rw [e1] at hx
        cases he
        cases hx with
        | @ptr _ _ c d hb => exact next_V (.pure r (run _ _) (by rw [Nat.add_assoc]; exact .ptr hb))
      · rename_i b o e1
        rw [e1] at hx
        cases he
        cases hx
        exact next_V (.pure r (run _ _) (.gptr _ _))
    · rename_i e hu
      split at hc <;> try contradiction
      rename_i ie hie
      cases hc
      simp only [evalOp] at he
      split at he <;> try contradiction
      rename_i i hi
      obtain ⟨k, e2⟩ := natOf_eq hi
      rw [e2] at hi'
      cases hi'
      split at he <;> try contradiction
      rename_i b o n c ex e1
      rw [e1] at hx
      split at he <;> try contradiction
      rename_i hlt
      have hlt : i < n := Nat.le_of_ble_eq_true hlt
      cases he
      cases hx with
      | @slice _ _ _ _ k' c1 _ d hb h1 h2 h3 h4 =>
        refine next_V (.pure r (v' := .pointer (some ⟨c1, d.1 + o + i * ie.size, none⟩)) ?_ (by rw [Nat.add_assoc]; exact .ptr hb))
        unfold Instr.indexAt
        simp only [asIntOf, Sem.run_bind, Sem.run_pure, Result.andThen_ok, run_underlying hu]
        rw [if_pos ⟨by omega, by omega⟩]
        simp [run_size hie, add_zero_off]
  · split at hc <;> try contradiction
    · rename_i xo io hu h1 h2
      cases hc
      have hx := aev_ok ht h1
      have hi' := aev_ok ht h2
      revert hx hi'
      generalize a.eval _ = u
      generalize a.eval _ = v
      intro hx hi'
      simp only [evalOp] at he
      split at he <;> try contradiction
      rename_i i hi
      obtain ⟨k, e2⟩ := natOf_eq hi
      rw [e2] at hi'
      cases hi'
      split at he <;> try contradiction
      rename_i s e1
      rw [e1] at hx
      split at he <;> try contradiction
      rename_i b hb
      cases he
      cases hx with
      | @str _ bs hbs =>
        rw [nth_eq, ← hbs, List.getElem?_map] at hb
        cases hq : bs.data.toList[i]? with
        | none => rw [hq] at hb; cases hb
        | some q =>
          rw [hq] at hb
          cases hb
          refine next_V (.pure r (v' := .int .u8 q.toNat) ?_ (.int _ _))
          have hlt : i < bs.size := by
            have := (List.getElem?_eq_some_iff.1 hq).1
            simpa using this
          have hget : bs[i]? = some q := by
            rw [getElem?_pos bs i hlt]
            congr 1
            have h3 := (List.getElem?_eq_some_iff.1 hq).2
            rw [← h3]
            rfl
          unfold Instr.index
          simp only [asIntOf, Sem.run_bind, Sem.run_pure, Result.andThen_ok, run_underlying hu]
          rw [if_pos (by omega)]
          simp only [Int.toNat_natCast, hget]
          rfl
    · rename_i n e xo io hu h1 h2
      split at hc <;> try contradiction
      rename_i d ie hd hie
      cases hc
      have hx := aev_ok ht h1
      have hi' := aev_ok ht h2
      revert hx hi'
      generalize a.eval _ = u
      generalize a.eval _ = v
      intro hx hi'
      simp only [evalOp] at he
      split at he <;> try contradiction
      rename_i i hi
      obtain ⟨k, e2⟩ := natOf_eq hi
      rw [e2] at hi'
      cases hi'
      split at he <;> try contradiction
      rename_i hlt
      have hlt : i < n := Nat.le_of_ble_eq_true hlt
      split at he <;> try contradiction
      rename_i l e1
      rw [e1] at hx
      split at he <;> try contradiction
      rename_i q hq
      cases he
      cases hx with
      | agg hl hc =>
        obtain ⟨v', hrun, hv'⟩ := part_ok (P := P) hd hie hl hc hq w
        refine next_V (.pure r ?_ hv')
        unfold Instr.index
        simp only [asIntOf, Sem.run_bind, Sem.run_pure, Result.andThen_ok, run_underlying hu]
        rw [if_pos ⟨by omega, by omega⟩]
        simp [run_size hie, hrun]
  · split at hc <;> try contradiction
    rename_i k e xo io hu h1 h2
    split at hc <;> try contradiction
    rename_i kk z hk hz
    split at hc <;> try contradiction
    rename_i hp
    cases hc
    obtain ⟨i, zv, hi, hzv, hzr⟩ := zeroV_ok hz
    simp only [evalOp] at he
    split at he <;> try contradiction
    rename_i es hes
    split at he <;> try contradiction
    rename_i hch
    split at he <;> try contradiction
    · rename_i v hf
      cases he
      have := lookup_ok (P := P) r (by decide : 20 ≤ 10000) hu hk hp hi hzv hzr (aev_ok ht h1) (aev_ok ht h2) hes hch hf
      exact next_V (this _)
    · rename_i hf
      cases he
      have := lookup_ok (P := P) r (by decide : 20 ≤ 10000) hu hk hp hi hzv hzr (aev_ok ht h1) (aev_ok ht h2) hes hch hf
      exact next_V (this _)
  · exact mapUpd_ok r ht hc he
  · exact mapUpd_ok r ht hc he
  · obtain ⟨x, hx, rfl⟩ := Option.map_eq_some_iff.1 hc
    have hxv := aev_ok ht hx
    simp only [evalOp] at he
    split at he <;> try contradiction
    rename_i l e1
    rw [e1] at hxv
    split at he <;> try contradiction
    rename_i v hv
    cases he
    revert hxv
    generalize a.eval _ = u
    intro hxv
    cases hxv with
    | tuple hl =>
      rw [nth_eq] at hv
      obtain ⟨q, hq, hvq⟩ := hl.get hv
      refine next_V (.pure r (v' := q) ?_ hvq)
      rw [Array.getElem?_toList] at hq
      simp only [Instr.extract, hq]
      rfl
  · rename_i cl
    split at hc <;> try contradiction
    · rename_i b hcal
      have := cBuiltin_ok (ty := o.type) (cs := cl.args.map fun | .const _ => true | _ => false) r ht hc he
      obtain ⟨nx, w', ψ, g1, g2⟩ := this
      refine ⟨nx, w', ψ, ?_, g2⟩
      simp only [resolve, hcal, Sem.run_bind, Sem.run_pure, Result.andThen_ok, invoke]
      exact g1
    · rename_i f hcal
      split at hc
      rotate_left
      · split at hc
        rotate_left
        · exact overlaps_ok hix hcal r ht hc he
        rename_i hf
        subst hf
        split at hc <;> try contradiction
        rename_i x hargs
        obtain ⟨xo, h1, rfl⟩ := Option.map_eq_some_iff.1 hc
        cases he
        have hargs' : cl.args.map a.eval = #[a.eval x] := by rw [list_args1 hargs]; simp
        have hrun : (resolve a.eval cl o.type >>= fun d => invoke d.target d.args).run P w = .ok (.value (a.eval x)) w := by
          have hf : a.eval (.func ix.noEsc) = .func (.func ix.noEsc) #[] #[] := rfl
          simp only [resolve, hcal, Sem.run_bind, hargs', hf, Deferred.ofValue, Sem.run_pure, Result.andThen_ok, invoke]
          rw [show (#[] ++ #[a.eval x] ++ #[] : Array Value) = #[a.eval x] by simp]
          exact hix.2.2.2 _ w
        exact ⟨_, w, φ, hrun, .inl ⟨_, rfl, aev_ok ht h1⟩, r, .refl _ _ _⟩
      rename_i hf
      subst hf
      split at hc <;> try contradiction
      rename_i x y hargs
      split at hc <;> try contradiction
      rename_i xo yo h1 h2
      cases hc
      have hx := aev_ok ht h1
      have hy := aev_ok ht h2
      simp only [evalOp] at he
      split at he <;> try contradiction
      rename_i l c e1 e2
      rw [e1] at hx
      rw [e2] at hy
      split at he <;> try contradiction
      rename_i hlt
      have hlt : c < 256 := Nat.le_of_ble_eq_true hlt
      have hargs' : cl.args.map a.eval = #[a.eval x, a.eval y] := by rw [list_args2 hargs]; simp
      have hrun : (resolve a.eval cl o.type >>= fun d => invoke d.target d.args).run P w = .ok (.value (.int .i64 (match idxOf c l 0 with | some i => (i : Int) | none => -1))) w := by
        have hf : a.eval (.func ix.idx) = .func (.func ix.idx) #[] #[] := rfl
        simp only [resolve, hcal, Sem.run_bind, hargs', hf, Deferred.ofValue, Sem.run_pure, Result.andThen_ok, invoke]
        rw [show (#[] ++ #[a.eval x, a.eval y] ++ #[] : Array Value) = #[a.eval x, a.eval y] by simp, hix.2.2.1, idxByteStr_run hx hy hlt]
        rfl
      refine ⟨_, w, φ, hrun, .inl ⟨_, rfl, ?_⟩, ?_⟩
      · split at he
        · rename_i i hi
          cases he
          rw [hi]; exact .int _ _
        · rename_i hi
          cases he
          rw [hi]; exact .int _ _
      · split at he <;> cases he <;> exact ⟨r, .refl _ _ _⟩

end
end Go.Clean

