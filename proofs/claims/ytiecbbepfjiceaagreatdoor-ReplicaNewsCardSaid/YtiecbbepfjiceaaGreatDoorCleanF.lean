/-
  CLEAN, part F: code, functions, calls.
  CLEAN, part G: functions entered and left; the whole evaluator is sound.
  CLEAN, part H: the program's code, compiled.
-/
import Derived.Test.YtiecbbepfjiceaaGreatDoorCleanE
import Derived.Defers
set_option linter.unusedVariables false
set_option linter.unusedSimpArgs false
namespace Go.Clean

inductive CCode where
  | skip
  | ops (l : List COper)
  | draw (l : List DOper)
  | opsDefer (l : List COper) (f : AO)     -- the last operation defers a call of a function that does nothing where its caller returns
  | seq (a b : CCode)
  | cond (c : AO) (a b : CCode)
  | block (i : Nat) (b : CCode)
  | loop (b : CCode)
  | exit (i : Nat)
  | ret
  | fail

inductive CRes where
  | tmp (t : Nat)
  | cell (agg : Bool) (n : Nat) (t : Nat)

structure CFunc where
  N : Nat
  body : CCode
  results : List CRes

inductive XA where
  | normal
  | exit (i : Nat)
  | ret

/-! ### compilation -/
def seqFrom : Nat → Nat → List Nat
  | _, 0 => []
  | s, n + 1 => s :: seqFrom (s + 1) n
/-- the operations with what is to be known of their order -/
def kindFor (o : Oper) (c : COper) : Nat :=
  match freeSrc o.op with
  | true => 3
  | false => actKind c.act
def kindsFor : List Oper → List COper → List DOper
  | o :: l, c :: cs => ⟨c, kindFor o c, []⟩ :: kindsFor l cs
  | _, _ => []
def placesFor (ds : List DOper) (ms : List Nat) (n x : Nat) : List Nat :=
  (seqFrom 0 (n + 1)).filter fun s => !Nat.beq s x && !never ds ms n x s && (match s with | 0 => true | s + 1 => Nat.beq (kindAt ds s) 2)
def readsFor (all : List DOper) (ms : List Nat) (n : Nat) : Nat → List DOper → List DOper
  | _, [] => []
  | x, d :: l => (match Nat.beq d.kind 1 with
    | true => ⟨d.co, d.kind, placesFor all ms n x⟩
    | false => d) :: readsFor all ms n (x + 1) l
def mkDraw (P : Program) (ix : Ixs) (N : Nat) (ops : Array Oper) : Option (List DOper) :=
  match compOpers P ix N ops ops.toList with
  | some cs =>
    let ds := kindsFor ops.toList cs
    some (readsFor ds (masks ops.toList []) ops.size 0 ds)
  | none => none

def compDefer (P : Program) (ix : Ixs) (N : Nat) (ops : Array Oper) : List Oper → Option (List COper × AO)
  | [] => none
  | o :: l => match l with
    | [] => match o.op, o.guard, o.dst with
      | .defer c, none, none => match c.callee, c.args.toList with
        | .value f, [] => match aoOf f with
          | some f => some ([], f)
          | none => none
        | _, _ => none
      | _, _, _ => none
    | _ :: _ => match compOper P ix N ops o, compDefer P ix N ops l with
      | some c, some (r, f) => some (c :: r, f)
      | _, _ => none

/-- is this the code? -/
inductive CodeC (P : Program) (ix : Ixs) (N : Nat) : Code → CCode → Prop where
  | skip : CodeC P ix N .skip .skip
  | label (l : Nat) : CodeC P ix N (.label l) .skip
  | ops {id : Nat} {ops : Array Oper} {cs : List COper} : compOpers P ix N ops ops.toList = some cs → CodeC P ix N (.region id ops false) (.ops cs)
  | opsDefer {id : Nat} {ops : Array Oper} {cs : List COper} {f : AO} : compDefer P ix N ops ops.toList = some (cs, f) → CodeC P ix N (.region id ops false) (.opsDefer cs f)
  | draw {id : Nat} {ops : Array Oper} {ds : List DOper} : compOpers P ix N ops ops.toList = some (ds.map (·.co)) → drawOk ops.toList ds = true → drawSrc ops.toList ds = true → CodeC P ix N (.region id ops true) (.draw ds)
  | seq {a b : Code} {x y : CCode} : CodeC P ix N a x → CodeC P ix N b y → CodeC P ix N (.seq a b) (.seq x y)
  | cond {c : Operand} {o : AO} {a b : Code} {x y : CCode} : aoOf c = some o → CodeC P ix N a x → CodeC P ix N b y → CodeC P ix N (.cond c a b) (.cond o x y)
  | block {i : Nat} {a : Code} {x : CCode} : CodeC P ix N a x → CodeC P ix N (.block i a) (.block i x)
  | loop {a : Code} {x : CCode} : CodeC P ix N a x → CodeC P ix N (.loop a) (.loop x)
  | exit (i : Nat) : CodeC P ix N (.exit i) (.exit i)
  | ret : CodeC P ix N .ret .ret
  | fail (c : Code) : CodeC P ix N c .fail

def resOf (P : Program) : List ResultVar → Option (List CRes)
  | [] => some []
  | .tmp t :: l => match resOf P l with
    | some r => some (.tmp t :: r)
    | none => none
  | .cell t ty :: l => match P.underlying ty, P.info? ty, resOf P l with
    | some d, some i, some r => some (.cell (aggB d) i.size t :: r)
    | _, _, _ => none

/-! ### evaluation -/
abbrev Rec := CCode → Tr AV → H → Option (XA × Tr AV × H)

def resA (m : Tr AV) (h : H) : CRes → Option AV
  | .tmp t => some (aev (.tmp t) m)
  | .cell agg n t => match aev (.tmp t) m with
    | .ptr b o => match h.m.get b with
      | some (.cells l _ _ _) => partA l o n agg
      | _ => none
    | _ => none
def resAs (m : Tr AV) (h : H) : List CRes → Option (List AV)
  | [] => some []
  | r :: l => match resA m h r, resAs m h l with
    | some v, some vs => some (v :: vs)
    | _, _ => none
def one : List AV → AV
  | [v] => v
  | l => .tuple l

def argsM : List AV → Nat → Tr AV → Tr AV
  | [], _, m => m
  | v :: l, i, m => argsM l (i + 1) (m.set i v)

structure Env where
  laid : Laid
  prims : Nat → Option (List AV → H → Option (AV × H))
  funcs : Nat → Option CFunc
  defs : Nat → Bool          -- functions that do nothing where they are deferred and their caller returns

def callF (E : Env) (rec : Rec) : Ev := fun f args h =>
  match E.prims f with
  | some p => p args h
  | none => match E.funcs f with
    | some fn => match rec fn.body (argsM args 0 .leaf) h with
      | some (.exit _, _, _) => none
      | some (_, m', h') => match resAs m' h' fn.results with
        | some vs => some (one vs, h')
        | none => none
      | none => none
    | none => none

def stepC (E : Env) (rec : Rec) : Rec := fun c m h =>
  match c with
  | .skip => some (.normal, m, h)
  | .ops l => match evalOpers E.laid (callF E rec) l m h with
    | some (m', h') => some (.normal, m', h')
    | none => none
  | .opsDefer l f => match evalOpers E.laid (callF E rec) l m h with
    | some (m', h') => match aev f m' with
      | .func g _ _ => match E.defs g with
        | true => some (.normal, m', h')
        | false => none
      | _ => none
    | none => none
  | .draw l => match evalDraw E.laid (callF E rec) l m h with
    | some (m', h') => some (.normal, m', h')
    | none => none
  | .seq a b => match rec a m h with
    | some (.normal, m', h') => rec b m' h'
    | r => r
  | .cond c a b => match aev c m with
    | .bool true => rec a m h
    | .bool false => rec b m h
    | _ => none
  | .block i b => match rec b m h with
    | some (.exit j, m', h') => match Nat.beq j i with
      | true => some (.normal, m', h')
      | false => some (.exit j, m', h')
    | r => r
  | .loop b => match rec b m h with
    | some (.normal, m', h') => rec (.loop b) m' h'
    | r => r
  | .exit i => some (.exit i, m, h)
  | .ret => some (.ret, m, h)
  | .fail => none

/-- fuel: how deep -/
def evalC (E : Env) (n : Nat) : Rec := Nat.rec (motive := fun _ => Rec) (fun _ _ _ => none) (fun _ rec => stepC E rec) n
theorem evalC_zero (E : Env) : evalC E 0 = fun _ _ _ => none := rfl
theorem evalC_succ (E : Env) (n : Nat) : evalC E (n + 1) = stepC E (evalC E n) := rfl

def exitOf : XA → Exit
  | .normal => .normal
  | .exit i => .exit i
  | .ret => .ret

/-! ### soundness -/
def LoopAt (P : Program) (c : Code) (Q : Exit → Act → World → Prop) (a : Act) (w : World) : Prop :=
  ∀ (b : Frame) (k : List Item) (cs : List Frame), ∃ e a' w', Q e a' w' ∧ Arrives P (lone (b.at a (.code c :: .inLoop c :: k)) cs w) b k cs e a' w'

section
variable {B : Base} {P : Program} {ix : Ixs}

theorem LoopAt.wp {c : Code} {Q : Exit → Act → World → Prop} {a : Act} {w : World} (h : LoopAt P c Q a w) : (Code.loop c).wp P Q a w := fun b k cs =>
  let ⟨e, a', w', hq, harr⟩ := h b k cs
  ⟨e, a', w', hq, .of_steps (.one step_loop) harr⟩

theorem LoopAt.next {c : Code} {Q : Exit → Act → World → Prop} {a : Act} {w : World} (h : c.wp P (Exit.then (LoopAt P c Q) Q) a w) : LoopAt P c Q a w := by
  intro b k cs
  obtain ⟨e, a₁, w₁, hq, harr⟩ := h b (.inLoop c :: k) cs
  cases e with
  | normal =>
    obtain ⟨e₂, a₂, w₂, hq₂, harr₂⟩ := hq b k cs
    exact ⟨e₂, a₂, w₂, hq₂, .of_steps (Steps.trans harr (.one step_inLoop)) harr₂⟩
  | exit id => exact ⟨_, a₁, w₁, hq, .pass (x := .inLoop c) rfl (fun _ _ => .inl (by simp)) harr⟩
  | goto l => exact ⟨_, a₁, w₁, hq, .pass (x := .inLoop c) rfl (fun _ _ => .inl (by simp)) harr⟩
  | ret => exact ⟨_, a₁, w₁, hq, .pass (x := .inLoop c) rfl (fun _ _ => .inl (by simp)) harr⟩
  | panic ch => exact ⟨_, a₁, w₁, hq, .pass (x := .inLoop c) rfl (fun _ _ => .inl (by simp)) harr⟩
  | outgrown => exact ⟨_, a₁, w₁, hq, .pass (x := .inLoop c) rfl (fun _ _ => .inl (by simp)) harr⟩

/-- only such calls are deferred -/
def DOk (ok : Nat → Bool) (ds : List Deferred) : Prop := ∀ d ∈ ds, ∃ f cap, d.target = .fn (.func f) cap ∧ ok f = true

def CodeOk (B : Base) (P : Program) (ix : Ixs) (L : Laid) (ok : Nat → Bool) (rec : Rec) : Prop :=
  ∀ (N : Nat) (c : Code) (cc : CCode), CodeC P ix N c cc → ∀ m h x m' h', rec cc m h = some (x, m', h') → ∀ φ w a (Q : Exit → Act → World → Prop), HR B L φ h w → TR φ m a → N ≤ a.tmps.size → DOk ok a.defers →
    (∀ a' w' ψ, TR ψ m' a' → HR B L ψ h' w' → Step φ h w ψ h' w' → N ≤ a'.tmps.size → DOk ok a'.defers → Q (exitOf x) a' w') →
    c.wp P Q a w ∧ ∀ b, c = .loop b → LoopAt P b Q a w

theorem opersD_ok {N : Nat} {L : Laid} {ev : Ev} {ok : Nat → Bool} (hix : IxOk B P ix) (hev : FnOk B L P ev) {ops : Array Oper} {Q : Exit → Act → World → Prop} :
    ∀ (is : List Nat) (l : List Oper) (cs : List COper) (f : AO) (φ : Phi) (h : H) (w : World) (m : Tr AV) (a : Act), (∀ (j : Nat) (o : Oper), l[j]? = some o → ∃ i : Nat, is[j]? = some i ∧ ops[i]? = some o) → is.length = l.length → compDefer P ix N ops l = some (cs, f) →
    HR B L φ h w → TR φ m a → N ≤ a.tmps.size → DOk ok a.defers → ∀ m' h', evalOpers L ev cs m h = some (m', h') → ∀ g p q, aev f m' = .func g p q → ok g = true →
    (∀ a' w' ψ, TR ψ m' a' → HR B L ψ h' w' → Step φ h w ψ h' w' → N ≤ a'.tmps.size → DOk ok a'.defers → Q .normal a' w') → wpOps P ops Q is a w := by
  intro is
  induction is with
  | nil =>
    intro l cs f φ h w m a _ hlen hc
    cases l with
    | nil => cases hc
    | cons _ _ => cases hlen
  | cons i is ih =>
    intro l cs f φ h w m a hidx hlen hc r ht hN hD m' h' he g p q hfv hg hQ
    cases l with
    | nil => cases hlen
    | cons o l =>
      have hi : ops[i]? = some o := by
        obtain ⟨i', e1, e2⟩ := hidx 0 o rfl
        cases e1
        exact e2
      rw [wpOps_cons]
      cases l with
      | nil =>
        have his : is = [] := List.eq_nil_of_length_eq_zero (by simpa using hlen)
        subst his
        simp only [compDefer] at hc
        split at hc <;> try contradiction
        rename_i cl hop hgd hdst
        split at hc <;> try contradiction
        rename_i fo hcal hargs
        split at hc <;> try contradiction
        rename_i f' hf'
        cases hc
        cases he
        have hv := aev_ok ht hf'
        rw [hfv] at hv
        revert hv
        generalize hu : a.eval fo = u
        intro hv
        cases hv with
        | @func _ _ _ fa fb hfa hfb =>
          have hargs' : cl.args = #[] := by cases hca : cl.args; rw [hca] at hargs; simp at hargs; subst hargs; rfl
          unfold wpOp
          have hw : Region.wanted o (yielded ops a.tmps) = true := by unfold Region.wanted; rw [hgd]
          simp only [hi, hw, if_true]
          refine .inl ?_
          have hrun : (execOp a.eval o).run P w = .ok (.defer { target := .fn (.func g) fb, args := fa ++ #[] }) w := by
            unfold execOp
            simp only [hop, Sem.run_bind, resolve, hcal, hu, hargs', Deferred.ofValue, Sem.run_pure, Result.andThen_ok]
            simp
          unfold Oper.wp
          rw [hrun]
          show Q .normal _ w
          rw [hdst]
          refine hQ _ w φ ht r (.refl _ _ _) hN ?_
          intro d hd
          cases hd with
          | head => exact ⟨g, fb, rfl, hg⟩
          | tail _ hd => exact hD d hd
      | cons o2 l =>
        simp only [compDefer] at hc
        split at hc <;> try contradiction
        rename_i c cr f' hc1 hc2
        cases hc
        simp only [evalOpers] at he
        split at he <;> try contradiction
        rename_i v h1 he1
        have hdst : c.dst = o.dst ∧ dstOk N o.dst = true := by
          unfold compOper at hc1
          split at hc1 <;> try contradiction
          cases hc1
          rename_i hd _ _
          exact ⟨rfl, hd⟩
        refine oper_ok hix hev r ht hi hc1 he1 fun v' w' ψ hv hr' hst => ?_
        refine ih (o2 :: l) cr f ψ h1 w' _ _ (fun j o' hj => ?_) (by simpa using hlen) hc2 hr' ((ht.mono hst.le).put hv hdst.2 hN) (by rw [put_size]; exact hN) (by rw [put_defers]; exact hD) m' h' (by rw [← hdst.1]; exact he) g p q hfv hg fun a' w'' χ h1 h2 h3 h4 h5 => ?_
        · obtain ⟨i', e1, e2⟩ := hidx (j + 1) o' (by simpa using hj)
          exact ⟨i', by simpa using e1, e2⟩
        · exact hQ a' w'' χ h1 h2 (hst.trans h3) h4 h5

theorem regionD_ok {N : Nat} {L : Laid} {ev : Ev} {ok : Nat → Bool} {φ : Phi} {h : H} {w : World} {m : Tr AV} {a : Act} (hix : IxOk B P ix) (hev : FnOk B L P ev) {id : Nat} {ops : Array Oper} {Q : Exit → Act → World → Prop} {cs : List COper} {f : AO} (hc : compDefer P ix N ops ops.toList = some (cs, f))
    (r : HR B L φ h w) (ht : TR φ m a) (hN : N ≤ a.tmps.size) (hD : DOk ok a.defers) {m' : Tr AV} {h' : H} (he : evalOpers L ev cs m h = some (m', h')) {g : Nat} {p q : List AV} (hf : aev f m' = .func g p q) (hg : ok g = true)
    (hQ : ∀ a' w' ψ, TR ψ m' a' → HR B L ψ h' w' → Step φ h w ψ h' w' → N ≤ a'.tmps.size → DOk ok a'.defers → Q .normal a' w') : (Code.region id ops false).wp P Q a w := by
  refine wp_region ?_
  refine opersD_ok hix hev (List.range ops.size) ops.toList cs f φ h w m a (fun j o hj => ?_) (by simp) hc r ht hN hD m' h' he g p q hf hg hQ
  have hlt : j < ops.size := by
    have := (List.getElem?_eq_some_iff.1 hj).1
    simpa using this
  exact ⟨j, by simp [hlt], by rw [← Array.getElem?_toList]; exact hj⟩

theorem step_ok {E : Env} (hm : P.follows .mixedOrders = true) (hix : IxOk B P ix) {rec : Rec} (hrec : CodeOk B P ix E.laid E.defs rec) (hev : FnOk B E.laid P (callF E rec)) : CodeOk B P ix E.laid E.defs (stepC E rec) := by
  intro N c cc hc m h x m' h' he φ w a Q r ht hN hD hQ
  cases hc with
  | skip => cases he; exact ⟨wp_skip (hQ a w φ ht r (.refl _ _ _) hN hD), fun b e => by cases e⟩
  | label l => cases he; exact ⟨wp_label (hQ a w φ ht r (.refl _ _ _) hN hD), fun b e => by cases e⟩
  | ops hcs =>
    simp only [stepC] at he
    split at he <;> try contradiction
    rename_i m1 h1 he1
    cases he
    exact ⟨region_ok hix hev hcs r ht hN he1 fun a' w' ψ q1 q2 q3 q4 q5 => hQ a' w' ψ q1 q2 q3 q4 (by rw [q5]; exact hD), fun b e => by cases e⟩
  | opsDefer hcs =>
    simp only [stepC] at he
    split at he <;> try contradiction
    rename_i m1 h1 he1
    split at he <;> try contradiction
    rename_i g p q e1
    split at he <;> try contradiction
    rename_i hg
    cases he
    exact ⟨regionD_ok hix hev hcs r ht hN hD he1 e1 hg hQ, fun b e => by cases e⟩
  | draw hcs hchk hsrc =>
    simp only [stepC] at he
    split at he <;> try contradiction
    rename_i m1 h1 he1
    cases he
    exact ⟨draw_ok hm hix hev hcs hchk hsrc r ht hN he1 fun a' w' ψ q1 q2 q3 q4 q5 => hQ a' w' ψ q1 q2 q3 q4 (by rw [q5]; exact hD), fun b e => by cases e⟩
  | @seq a0 b0 x0 y0 ha hb =>
    refine ⟨?_, fun b e => by cases e⟩
    simp only [stepC] at he
    refine wp_seq ?_
    split at he
    · rename_i m1 h1 he1
      refine (hrec N a0 x0 ha m h .normal m1 h1 he1 φ w a _ r ht hN hD fun a1 w1 ψ t1 r1 s1 n1 d1 => ?_).1
      show (b0.wp P Q) a1 w1
      exact (hrec N b0 y0 hb m1 h1 x m' h' he ψ w1 a1 Q r1 t1 n1 d1 fun a2 w2 χ t2 r2 s2 n2 d2 => hQ a2 w2 χ t2 r2 (s1.trans s2) n2 d2).1
    · rename_i hne
      refine (hrec N a0 x0 ha m h x m' h' he φ w a _ r ht hN hD fun a1 w1 ψ t1 r1 s1 n1 d1 => ?_).1
      cases x with
      | normal => exact absurd he (hne _ _)
      | exit i => exact hQ a1 w1 ψ t1 r1 s1 n1 d1
      | ret => exact hQ a1 w1 ψ t1 r1 s1 n1 d1
  | @cond co o a0 b0 x0 y0 ho ha hb =>
    refine ⟨?_, fun b e => by cases e⟩
    simp only [stepC] at he
    have hv := aev_ok ht ho
    split at he <;> try contradiction
    · rename_i e1
      rw [e1] at hv
      have : a.eval co = .bool true := by revert hv; generalize a.eval co = u; intro hv; cases hv; rfl
      exact wp_cond_true this (hrec N a0 x0 ha m h x m' h' he φ w a Q r ht hN hD hQ).1
    · rename_i e1
      rw [e1] at hv
      have : a.eval co = .bool false := by revert hv; generalize a.eval co = u; intro hv; cases hv; rfl
      exact wp_cond_false this (hrec N b0 y0 hb m h x m' h' he φ w a Q r ht hN hD hQ).1
  | @block i a0 x0 ha =>
    refine ⟨?_, fun b e => by cases e⟩
    simp only [stepC] at he
    refine wp_block ?_
    split at he
    · rename_i j m1 h1 he1
      split at he
      · rename_i hji
        have hji := Nat.eq_of_beq_eq_true hji
        cases he
        refine (hrec N a0 x0 ha m h (.exit j) m' h' he1 φ w a _ r ht hN hD fun a1 w1 ψ t1 r1 s1 n1 d1 => ?_).1
        show (if j = i then Q .normal a1 w1 else Q (.exit j) a1 w1)
        rw [if_pos hji]
        exact hQ a1 w1 ψ t1 r1 s1 n1 d1
      · rename_i hji
        have hji : j ≠ i := fun e => by subst e; rw [Nat.beq_refl] at hji; cases hji
        cases he
        refine (hrec N a0 x0 ha m h (.exit j) m' h' he1 φ w a _ r ht hN hD fun a1 w1 ψ t1 r1 s1 n1 d1 => ?_).1
        show (if j = i then Q .normal a1 w1 else Q (.exit j) a1 w1)
        rw [if_neg hji]
        exact hQ a1 w1 ψ t1 r1 s1 n1 d1
    · rename_i hne
      refine (hrec N a0 x0 ha m h x m' h' he φ w a _ r ht hN hD fun a1 w1 ψ t1 r1 s1 n1 d1 => ?_).1
      cases x with
      | normal => exact hQ a1 w1 ψ t1 r1 s1 n1 d1
      | exit j => exact absurd he (hne _ _ _)
      | ret => exact hQ a1 w1 ψ t1 r1 s1 n1 d1
  | @loop a0 x0 ha =>
    have main : LoopAt P a0 Q a w := by
      simp only [stepC] at he
      refine .next ?_
      split at he
      · rename_i m1 h1 he1
        refine (hrec N a0 x0 ha m h .normal m1 h1 he1 φ w a _ r ht hN hD fun a1 w1 ψ t1 r1 s1 n1 d1 => ?_).1
        show LoopAt P a0 Q a1 w1
        exact (hrec N (.loop a0) (.loop x0) (.loop ha) m1 h1 x m' h' he ψ w1 a1 Q r1 t1 n1 d1 fun a2 w2 χ t2 r2 s2 n2 d2 => hQ a2 w2 χ t2 r2 (s1.trans s2) n2 d2).2 a0 rfl
      · rename_i hne
        refine (hrec N a0 x0 ha m h x m' h' he φ w a _ r ht hN hD fun a1 w1 ψ t1 r1 s1 n1 d1 => ?_).1
        cases x with
        | normal => exact absurd he (hne _ _)
        | exit i => exact hQ a1 w1 ψ t1 r1 s1 n1 d1
        | ret => exact hQ a1 w1 ψ t1 r1 s1 n1 d1
    exact ⟨main.wp, fun b e => by cases e; exact main⟩
  | exit i => cases he; exact ⟨wp_exit (hQ a w φ ht r (.refl _ _ _) hN hD), fun b e => by cases e⟩
  | fail c => cases he
  | ret => cases he; exact ⟨wp_ret (hQ a w φ ht r (.refl _ _ _) hN hD), fun b e => by cases e⟩

end
end Go.Clean

namespace Go.Clean

section
variable {B : Base} {L : Laid} {P : Program} {φ : Phi} {h : H} {w : World} {m : Tr AV} {a : Act} {ix : Ixs}

def resF (tmps : Array Value) : ResultVar → Sem Value
  | .tmp t => pure (tmps.getD t undef)
  | .cell a t => do loadVar t (← asAddr (tmps.getD a undef))

theorem resList_ok (r : HR B L φ h w) (ht : TR φ m a) : ∀ {l : List ResultVar} {cl : List CRes} {vs : List AV}, resOf P l = some cl → resAs m h cl = some vs →
    ∃ xs : List Value, (l.mapM (resF a.tmps)).run P w = .ok xs w ∧ VRs φ vs xs := by
  intro l
  induction l with
  | nil =>
    intro cl vs h1 h2
    cases h1
    cases h2
    exact ⟨[], by simp [Sem.run_pure], .nil⟩
  | cons x l ih =>
    intro cl vs h1 h2
    cases x with
    | tmp t =>
      simp only [resOf] at h1
      split at h1 <;> try contradiction
      rename_i rl hrl
      cases h1
      simp only [resAs] at h2
      split at h2 <;> try contradiction
      rename_i v vs' hv hvs
      cases h2
      obtain ⟨xs, e1, e2⟩ := ih hrl hvs
      cases hv
      refine ⟨a.tmps.getD t undef :: xs, ?_, .cons (ht t) e2⟩
      simp [List.mapM_cons, resF, Sem.run_pure, e1]
    | cell t ty =>
      simp only [resOf] at h1
      split at h1 <;> try contradiction
      rename_i d i rl hd hi hrl
      cases h1
      simp only [resAs] at h2
      split at h2 <;> try contradiction
      rename_i v vs' hv hvs
      cases h2
      obtain ⟨xs, e1, e2⟩ := ih hrl hvs
      simp only [resA] at hv
      split at hv <;> try contradiction
      rename_i b o e3
      split at hv <;> try contradiction
      rename_i l0 T row fr hg
      have hx := ht t
      rw [e3] at hx
      obtain ⟨c, dd, hb, hu⟩ := ptr_inv hx
      have hu' : a.tmps.getD t undef = .pointer (some ⟨c, dd.1 + o, none⟩) := hu
      rw [hu] at hx
      obtain ⟨v', w', ψ, g1, g2, g3, g4⟩ := load_ok r hd hi rfl hx hg hv
      have hrun : (loadVar ty ⟨c, dd.1 + o, none⟩).run P w = .ok v' w' := g1
      -- a load turns nothing
      obtain ⟨v2, q1, q2⟩ : ∃ v2, (loadVar ty ⟨c, dd.1 + o, none⟩).run P w = .ok v2 w ∧ VR φ v v2 := by
        obtain ⟨hc, cs, fz, hw, k1, k2, k3, k4⟩ := r.obj b c dd _ hb hg
        unfold partA at hv
        cases hag : aggB d with
        | true =>
          rw [hag] at hv
          simp only at hv
          split at hv <;> try contradiction
          rename_i q hq
          cases hv
          obtain ⟨ws, hrun2, hws⟩ := run_cells (P := P) hw k3 hq
          refine ⟨.agg ws.toArray, ?_, .agg (by simpa using hws) (cellsOk_sub hc hq)⟩
          unfold loadVar
          rw [Sem.run_bind, run_isAgg hd, hag, Result.andThen_ok]
          simp only [if_true]
          rw [Sem.run_bind, run_size hi, Result.andThen_ok, Sem.run_bind, hrun2]
          rfl
        | false =>
          rw [hag] at hv
          simp only at hv
          rw [nth_eq] at hv
          obtain ⟨u, hu2, hvu⟩ := vrs_cell k3 hv
          refine ⟨u, ?_, hvu⟩
          unfold loadVar
          rw [Sem.run_bind, run_isAgg hd, hag, Result.andThen_ok]
          simp only [Bool.false_eq_true, if_false]
          rw [run_load, cell_of hw hu2]
      refine ⟨v2 :: xs, ?_, .cons q2 e2⟩
      simp [List.mapM_cons, resF, hu', asAddr, q1, e1]

theorem one_ok {vs : List AV} {xs : List Value} (hv : VRs φ vs xs) : VR φ (one vs) (if h : xs.toArray.size = 1 then xs.toArray[0] else .tuple xs.toArray) := by
  cases hv with
  | nil => exact .tuple .nil
  | cons h1 h2 =>
    cases h2 with
    | nil => exact h1
    | cons h3 h4 => simp; exact .tuple (.cons h1 (.cons h3 h4))

theorem results_ok (r : HR B L φ h w) (ht : TR φ m a) {fn : Func} {cl : List CRes} {vs : List AV} (h1 : resOf P fn.results.toList = some cl) (h2 : resAs m h cl = some vs) :
    ∃ v, (results fn a.tmps).run P w = .ok v w ∧ VR φ (one vs) v := by
  obtain ⟨xs, e1, e2⟩ := resList_ok (P := P) r ht h1 h2
  refine ⟨_, ?_, one_ok e2⟩
  have hm : (fn.results.mapM (resF a.tmps)).run P w = .ok xs.toArray w := by
    rw [Array.mapM_eq_mapM_toList]
    simp [e1]
  have hf : (fun x : ResultVar => match x with
    | .tmp t => (pure (a.tmps.getD t undef) : Sem Value)
    | .cell b t => do loadVar t (← asAddr (a.tmps.getD b undef))) = resF a.tmps := by
    funext x; cases x <;> rfl
  show (Sem.run P (do
    let vs ← fn.results.mapM fun x : ResultVar => match x with
      | .tmp t => (pure (a.tmps.getD t undef) : Sem Value)
      | .cell b t => do loadVar t (← asAddr (a.tmps.getD b undef))
    pure (if h : vs.size = 1 then vs[0] else .tuple vs)) w) = _
  rw [hf, Sem.run_bind, hm, Result.andThen_ok]
  rfl

theorem argsM_ok : ∀ {args : List AV} (i : Nat) (m : Tr AV) (t : Nat), aev (.tmp t) (argsM args i m) = if t < i then aev (.tmp t) m else match args[t - i]? with
    | some v => v
    | none => aev (.tmp t) m := by
  intro args
  induction args with
  | nil => intro i m t; simp only [argsM]; split <;> rfl
  | cons v l ih =>
    intro i m t
    simp only [argsM]
    rw [ih]
    by_cases h1 : t < i
    · rw [if_pos (by omega), if_pos h1]
      simp [aev, Tr.get_set_ne _ _ (show t ≠ i by omega)]
    · rw [if_neg h1]
      by_cases h2 : t = i
      · subst h2
        rw [if_pos (by omega)]
        simp [aev, Tr.get_set_same]
      · rw [if_neg (by omega)]
        have e : t - i = (t - (i + 1)) + 1 := by omega
        rw [e, List.getElem?_cons_succ]
        simp [aev, Tr.get_set_ne _ _ h2]

theorem enter_ok {args : List AV} {argv : Array Value} (hv : VRs φ args argv.toList) (k : Nat) : TR φ (argsM args 0 .leaf) { tmps := argv ++ Array.replicate k undef, defers := [] } := by
  intro t
  rw [argsM_ok]
  simp only [Nat.not_lt_zero, if_false, Nat.sub_zero, Act.eval]
  have hl : args.length = argv.size := by rw [hv.length]; exact Array.length_toList
  by_cases h1 : t < argv.size
  · cases hq : args[t]? with
    | none => rw [List.getElem?_eq_none_iff] at hq; omega
    | some v =>
      obtain ⟨x, e1, e2⟩ := hv.get hq
      simp only
      have : (argv ++ Array.replicate k undef).getD t undef = x := by
        rw [Array.getD_eq_getD_getElem?, Array.getElem?_append_left h1, ← Array.getElem?_toList, e1]
        rfl
      rw [this]; exact e2
  · have hq : args[t]? = none := by rw [List.getElem?_eq_none_iff]; omega
    rw [hq]
    simp only
    have : (argv ++ Array.replicate k undef).getD t undef = undef := by
      rw [Array.getD_eq_getD_getElem?, Array.getElem?_append_right (by omega), Array.getElem?_replicate]
      split <;> rfl
    rw [this]
    rw [show aev (AO.tmp t) Tr.leaf = AV.undef by simp only [aev, Tr.get_leaf]]; exact .undef φ

def PrimsOk (B : Base) (P : Program) (E : Env) : Prop :=
  ∀ f p, E.prims f = some p → ∀ args h v h', p args h = some (v, h') → ∀ φ w (argv : Array Value), HR B E.laid φ h w → VRs φ args argv.toList →
    (∃ fn c, P.funcs[f]? = some fn ∧ (fn.name == "runtime.NumGoroutine") = false ∧ fn.body = some c) ∧
    ∀ R : Ending → World → Prop, (∀ v' w' ψ, VR ψ v v' → HR B E.laid ψ h' w' → Step φ h w ψ h' w' → R (.returned v') w') → Calls P f argv w R
def FOk (P : Program) (ix : Ixs) (f : Nat) (cf : CFunc) : Prop :=
  ∃ fn c, P.funcs[f]? = some fn ∧ (fn.name == "runtime.NumGoroutine") = false ∧ fn.body = some c ∧ CodeC P ix cf.N c cf.body ∧ cf.N ≤ fn.ntmps ∧ resOf P fn.results.toList = some cf.results
def FsOk (P : Program) (ix : Ixs) (E : Env) : Prop := ∀ f cf, E.funcs f = some cf → FOk P ix f cf

/-- what is deferred does nothing where its caller returns -/
def DefsOk (P : Program) (ok : Nat → Bool) : Prop :=
  ∀ f, ok f = true → (∃ fn c, P.funcs[f]? = some fn ∧ (fn.name == "runtime.NumGoroutine") = false ∧ fn.body = some c) ∧
    ∀ (args : Array Value) (w : World), CallsD P f args .returning w fun e u' w' => (∃ v, e = .returned v) ∧ u' = .returning ∧ w' = w

theorem leaves_ok {ok : Nat → Bool} (hd : DefsOk P ok) {fn : Func} {tmps : Array Value} {R : Ending → World → Prop} {v : Value} (hv : (results fn tmps).run P w = .ok v w) (hR : R (.returned v) w) :
    ∀ {ds : List Deferred}, DOk ok ds → Leaves P fn tmps R ds .returning w := by
  intro ds
  induction ds with
  | nil => intro _; exact ⟨v, hv, hR⟩
  | cons d ds ih =>
    intro h
    obtain ⟨f, cap, htar, hok⟩ := h d (.head _)
    obtain ⟨⟨fd, c, hfd, hname, hbody⟩, hcall⟩ := hd f hok
    refine ⟨(by intro e; cases e), .func f, cap, f, d.args ++ cap, htar, ?_, CallsD.mono (hcall _ w) ?_⟩
    · rw [htar]
      exact run_enter hfd hname hbody _ w
    · rintro e u' w' ⟨⟨v', rfl⟩, rfl, rfl⟩
      exact ih fun d hd => h d (.tail _ hd)

theorem call_ok {E : Env} (hdf : DefsOk P E.defs) (hp : PrimsOk B P E) (hf : FsOk P ix E) {rec : Rec} (hrec : CodeOk B P ix E.laid E.defs rec) : FnOk B E.laid P (callF E rec) := by
  intro f args h v h' he φ w argv r hargs
  unfold callF at he
  split at he
  · rename_i p hpf
    exact hp f p hpf args h v h' he φ w argv r hargs
  · split at he <;> try contradiction
    rename_i cf hcf
    obtain ⟨fn, c, hfn, hname, hbody, hcode, hN, hres⟩ := hf f cf hcf
    refine ⟨⟨fn, c, hfn, hname, hbody⟩, fun R hR => calls_of_wp_defers hfn hbody ?_⟩
    have hsz : cf.N ≤ ({ tmps := argv ++ Array.replicate (fn.ntmps - argv.size) undef, defers := [] } : Act).tmps.size := by
      simp; omega
    split at he <;> try contradiction
    rename_i x m' h1 hne hrun
    split at he <;> try contradiction
    rename_i vs hvs
    cases he
    refine (hrec cf.N c cf.body hcode _ h _ _ _ hrun φ w _ _ r (enter_ok hargs _) hsz (fun d hd => by cases hd) fun a' w' ψ t1 r1 s1 n1 d1 => ?_).1
    obtain ⟨v', e1, e2⟩ := results_ok (P := P) r1 t1 hres hvs
    cases x with
    | normal => exact leaves_ok hdf e1 (hR v' w' ψ e2 r1 s1) d1
    | ret => exact leaves_ok hdf e1 (hR v' w' ψ e2 r1 s1) d1
    | exit i => exact (hne _ rfl).elim

theorem evalC_ok {E : Env} (hm : P.follows .mixedOrders = true) (hix : IxOk B P ix) (hdf : DefsOk P E.defs) (hp : PrimsOk B P E) (hf : FsOk P ix E) : ∀ n, CodeOk B P ix E.laid E.defs (evalC E n) := by
  intro n
  induction n with
  | zero => intro N c cc _ m h x m' h' he; cases he
  | succ n ih => rw [evalC_succ]; exact step_ok hm hix ih (call_ok hdf hp hf ih)

/-- THE EVALUATOR IS SOUND. -/
theorem eval_sound {E : Env} (hm : P.follows .mixedOrders = true) (hix : IxOk B P ix) (hdf : DefsOk P E.defs) (hp : PrimsOk B P E) (hf : FsOk P ix E) (n : Nat) : FnOk B E.laid P (callF E (evalC E n)) :=
  call_ok hdf hp hf (evalC_ok hm hix hdf hp hf n)

end
end Go.Clean

namespace Go.Clean

def compCode (P : Program) (ix : Ixs) (N : Nat) : Code → Option CCode
  | .skip => some .skip
  | .label _ => some .skip
  | .region _ ops d => match d with
    | false => match compOpers P ix N ops ops.toList with
      | some cs => some (.ops cs)
      | none => match compDefer P ix N ops ops.toList with
        | some (cs, f) => some (.opsDefer cs f)
        | none => none
    | true => match mkDraw P ix N ops with
      | some ds => match drawOk ops.toList ds && drawSrc ops.toList ds with
        | true => some (.draw ds)
        | false => none
      | none => none
  | .seq a b => match compCode P ix N a, compCode P ix N b with
    | some x, some y => some (.seq x y)
    | _, _ => none
  | .cond c a b => match aoOf c, compCode P ix N a, compCode P ix N b with
    | some o, some x, some y => some (.cond o x y)
    | _, _, _ => none
  | .block i b => match compCode P ix N b with
    | some x => some (.block i x)
    | none => none
  | .loop b => match compCode P ix N b with
    | some x => some (.loop x)
    | none => none
  | .exit i => some (.exit i)
  | .ret => some .ret
  | _ => some .fail

theorem kindsFor_co : ∀ {l : List Oper} {cs : List COper}, l.length = cs.length → (kindsFor l cs).map (·.co) = cs := by
  intro l
  induction l with
  | nil => intro cs h; cases cs <;> simp at h; rfl
  | cons o l ih =>
    intro cs h
    cases cs with
    | nil => simp at h
    | cons c cs => simp only [kindsFor, List.map_cons]; rw [ih (by simpa using h)]
theorem readsFor_co (all : List DOper) (ms : List Nat) (n : Nat) : ∀ (x : Nat) (l : List DOper), (readsFor all ms n x l).map (·.co) = l.map (·.co) := by
  intro x l
  induction l generalizing x with
  | nil => rfl
  | cons d l ih =>
    simp only [readsFor, List.map_cons, ih]
    congr 1
    split <;> rfl
theorem compOpers_length {P : Program} {ix : Ixs} {N : Nat} {ops : Array Oper} : ∀ {l : List Oper} {cs : List COper}, compOpers P ix N ops l = some cs → l.length = cs.length := by
  intro l
  induction l with
  | nil => intro cs h; cases h; rfl
  | cons o l ih =>
    intro cs h
    simp only [compOpers] at h
    split at h <;> try contradiction
    rename_i c cr h1 h2
    cases h
    simp [ih h2]

theorem compCode_ok {P : Program} {ix : Ixs} {N : Nat} : ∀ {c : Code} {cc : CCode}, compCode P ix N c = some cc → CodeC P ix N c cc := by
  intro c
  induction c with
  | skip => intro cc h; cases h; exact .skip
  | label l => intro cc h; cases h; exact .label l
  | region id ops d =>
    intro cc h
    simp only [compCode] at h
    split at h
    · split at h
      · rename_i cs hcs
        cases h
        exact .ops hcs
      · split at h <;> try contradiction
        rename_i cs f hcs
        cases h
        exact .opsDefer hcs
    · split at h <;> try contradiction
      rename_i ds hds
      split at h <;> try contradiction
      rename_i hchk
      cases h
      simp only [Bool.and_eq_true] at hchk
      unfold mkDraw at hds
      split at hds <;> try contradiction
      rename_i cs hcs
      cases hds
      refine .draw ?_ hchk.1 hchk.2
      rw [readsFor_co, kindsFor_co (compOpers_length hcs)]
      exact hcs
  | seq a b iha ihb =>
    intro cc h
    simp only [compCode] at h
    split at h <;> try contradiction
    rename_i x y hx hy
    cases h
    exact .seq (iha hx) (ihb hy)
  | cond c a b iha ihb =>
    intro cc h
    simp only [compCode] at h
    split at h <;> try contradiction
    rename_i o x y ho hx hy
    cases h
    exact .cond ho (iha hx) (ihb hy)
  | block i b ih =>
    intro cc h
    simp only [compCode] at h
    split at h <;> try contradiction
    rename_i x hx
    cases h
    exact .block (ih hx)
  | loop b ih =>
    intro cc h
    simp only [compCode] at h
    split at h <;> try contradiction
    rename_i x hx
    cases h
    exact .loop (ih hx)
  | exit i => intro cc h; cases h; exact .exit i
  | ret => intro cc h; cases h; exact .ret
  | _ => intro cc h; cases h; exact .fail _

/-- a function, compiled: what is to be checked -/
def compFunc (P : Program) (ix : Ixs) (f : Nat) : Option CFunc :=
  match P.funcs[f]? with
  | some fn => match fn.name == "runtime.NumGoroutine", fn.body with
    | false, some c => match compCode P ix fn.ntmps c, resOf P fn.results.toList with
      | some x, some r => some ⟨fn.ntmps, x, r⟩
      | _, _ => none
    | _, _ => none
  | none => none

theorem compFunc_ok {P : Program} {ix : Ixs} {f : Nat} {cf : CFunc} (h : compFunc P ix f = some cf) : FOk P ix f cf := by
  unfold compFunc at h
  split at h <;> try contradiction
  rename_i fn hfn
  split at h <;> try contradiction
  rename_i c hname hbody
  split at h <;> try contradiction
  rename_i x r hx hr
  cases h
  exact ⟨fn, c, hfn, hname, hbody, compCode_ok hx, Nat.le_refl _, hr⟩

/-! ### tables -/
def noF : Nat → Option CFunc := fun _ => none
theorem Tr_fs {P : Program} {ix : Ixs} {t : Tr CFunc} (ht : ∀ f cf, t.get f = some cf → FOk P ix f cf) {g : Nat} {c : CFunc} (hg : compFunc P ix g = some c) : ∀ f cf, (t.set g c).get f = some cf → FOk P ix f cf := by
  intro f cf h
  rw [Tr.get_set] at h
  split at h
  · rename_i e; subst e; cases h; exact compFunc_ok hg
  · exact ht f cf h

end Go.Clean

