/-
  CLEAN, part D: operations with their guards and destinations; lists of them; calls.
  CLEAN, part E: regions whose order is drawn: what an operation looks at.
  CLEAN, part E2: regions whose order is drawn: blocks reserved ahead; the run in the order of the text; the checks.
  CLEAN, part E3: regions whose order is drawn: the checks and the theorem.
  CLEAN, part E4: regions whose order is drawn: whatever the order.
  CLEAN, part E5: regions whose order is drawn: blocks ahead, and the theorem on a region.
-/
import Derived.Test.YtiecbbepfjiceaaGreatDoorCleanD
import Derived.Orders
set_option linter.unusedVariables false
set_option linter.unusedSimpArgs false
namespace Go.Clean

inductive CAct where
  | op (c : COp)
  | call (f : AO) (args : List AO)
structure COper where
  dst : Option Nat
  guard : Option (Nat × Bool)
  act : CAct

def wantedA (g : Option (Nat × Bool)) (m : Tr AV) : Bool :=
  match g with
  | none => true
  | some (t, b) => match aev (.tmp t) m with
    | .bool c => match b with
      | true => c
      | false => !c
    | _ => false
/-- is it known? -/
def guardOk (g : Option (Nat × Bool)) (m : Tr AV) : Bool :=
  match g with
  | none => true
  | some (t, _) => match aev (.tmp t) m with
    | .raw _ => false
    | .tok _ => false
    | _ => true
def putA (dst : Option Nat) (v : AV) (m : Tr AV) : Tr AV :=
  match dst with
  | some d => m.set d v
  | none => m
/-- what runs a function -/
abbrev Ev := Nat → List AV → H → Option (AV × H)
def evalOper (L : Laid) (ev : Ev) (o : COper) (m : Tr AV) (h : H) : Option (AV × H) :=
  match guardOk o.guard m with
  | false => none
  | true => match wantedA o.guard m with
    | false => some (.undef, h)
    | true => match o.act with
      | .op c => evalOp L c m h
      | .call f args => match aev f m with
        | .func f first cap => ev f (first ++ aevs args m ++ cap) h
        | _ => none
def evalOpers (L : Laid) (ev : Ev) : List COper → Tr AV → H → Option (Tr AV × H)
  | [], m, h => some (m, h)
  | o :: l, m, h => match evalOper L ev o m h with
    | some (v, h') => evalOpers L ev l (putA o.dst v m) h'
    | none => none

def compAct (P : Program) (ix : Ixs) (op : Op) : Option CAct :=
  match compOp P ix op with
  | some c => some (.op c)
  | none => match op with
    | .call c => match c.callee with
      | .value f => match aoOf f, aosOf c.args.toList with
        | some f, some args => some (.call f args)
        | _, _ => some (.op .fail)
      | _ => some (.op .fail)
    | .defer _ => none
    | _ => some (.op .fail)
def guardOf (ops : Array Oper) (g : Option (Nat × Bool)) : Option (Option (Nat × Bool)) :=
  match g with
  | none => some none
  | some (j, b) => match (ops[j]?).bind (·.dst) with
    | some t => some (some (t, b))
    | none => none
def dstOk (N : Nat) (d : Option Nat) : Bool :=
  match d with
  | some d => Nat.blt d N
  | none => true
def compOper (P : Program) (ix : Ixs) (N : Nat) (ops : Array Oper) (o : Oper) : Option COper :=
  match dstOk N o.dst, guardOf ops o.guard, compAct P ix o.op with
  | true, some g, some act => some ⟨o.dst, g, act⟩
  | _, _, _ => none
def compOpers (P : Program) (ix : Ixs) (N : Nat) (ops : Array Oper) : List Oper → Option (List COper)
  | [] => some []
  | o :: l => match compOper P ix N ops o, compOpers P ix N ops l with
    | some c, some r => some (c :: r)
    | _, _ => none

def FnOk (B : Base) (L : Laid) (P : Program) (ev : Ev) : Prop :=
  ∀ f args h v h', ev f args h = some (v, h') → ∀ φ w (argv : Array Value), HR B L φ h w → VRs φ args argv.toList →
    (∃ fn c, P.funcs[f]? = some fn ∧ (fn.name == "runtime.NumGoroutine") = false ∧ fn.body = some c) ∧
    ∀ R : Ending → World → Prop, (∀ v' w' ψ, VR ψ v v' → HR B L ψ h' w' → Step φ h w ψ h' w' → R (.returned v') w') → Calls P f argv w R

section
variable {B : Base} {L : Laid} {P : Program} {φ : Phi} {h : H} {w : World} {m : Tr AV} {a : Act} {ix : Ixs} {ev : Ev} {N : Nat}

theorem run_enter {f : FuncId} {fn : Func} {c : Code} (hf : P.funcs[f]? = some fn) (hname : (fn.name == "runtime.NumGoroutine") = false) (hb : fn.body = some c) (args : Array Value) (w : World) :
    (callFunc f args).run P w = .ok (.enter f args) w := by
  have h1 : fn.name ≠ "runtime.NumGoroutine" := by simpa using hname
  simp [callFunc, hf, h1, hb]

theorem TR.put {dst : Option Nat} {v : AV} {v' : Value} (ht : TR φ m a) (hv : VR φ v v') (hd : dstOk N dst = true) (hN : N ≤ a.tmps.size) : TR φ (putA dst v m) (a.put dst v') := by
  intro t
  cases dst with
  | none => exact ht t
  | some d =>
    have hlt : d < a.tmps.size := Nat.lt_of_lt_of_le (Nat.le_of_ble_eq_true hd) hN
    have h0 := ht t
    simp only [putA, aev, Act.put, Act.eval] at h0 ⊢
    rw [Tr.get_set]
    by_cases e : t = d
    · subst e
      rw [if_pos rfl]
      simpa [hlt] using hv
    · rw [if_neg e]
      have : (a.tmps.setIfInBounds d v').getD t undef = a.tmps.getD t undef := by
        simp [Array.getElem?_setIfInBounds_ne (Ne.symm e)]
      rw [this]
      exact h0

theorem put_size (a : Act) (dst : Option Nat) (v : Value) : (a.put dst v).tmps.size = a.tmps.size := by
  cases dst <;> simp [Act.put]
theorem put_defers (a : Act) (dst : Option Nat) (v : Value) : (a.put dst v).defers = a.defers := by
  cases dst <;> rfl

theorem wanted_ok (ht : TR φ m a) {ops : Array Oper} {o : Oper} {g : Option (Nat × Bool)} (hg : guardOf ops o.guard = some g) (hk : guardOk g m = true) : Region.wanted o (yielded ops a.tmps) = wantedA g m := by
  unfold guardOf at hg
  unfold Region.wanted
  split at hg
  · rename_i e
    cases hg
    simp only [e]
    rfl
  · rename_i j b e
    split at hg <;> try contradiction
    rename_i t htj
    cases hg
    simp only [e]
    have h0 := ht t
    simp only [wantedA]
    simp only [guardOk] at hk
    simp only [Act.eval] at h0
    unfold yielded
    rw [htj]
    simp only [Option.bind_some]
    cases hq : a.tmps[t]? with
    | none =>
      have : a.tmps.getD t undef = undef := by simp [hq]
      rw [this] at h0
      generalize aev (.tmp t) m = av at h0 hk
      cases av <;> first | rfl | (cases h0; done) | (cases hk; done)
    | some x =>
      have : a.tmps.getD t undef = x := by simp [hq]
      rw [this] at h0
      generalize aev (.tmp t) m = av at h0 hk
      cases h0 <;> first | rfl | (cases hk; done) | (rename_i c; cases c <;> cases b <;> rfl)

theorem oper_ok (hix : IxOk B P ix) (hev : FnOk B L P ev) (r : HR B L φ h w) (ht : TR φ m a) {ops : Array Oper} {i : Nat} {o : Oper} {c : COper} (hi : ops[i]? = some o) (hc : compOper P ix N ops o = some c) {v : AV} {h' : H}
    (he : evalOper L ev c m h = some (v, h')) {Q : Exit → Act → World → Prop} {K : Act → World → Prop}
    (hK : ∀ v' w' ψ, VR ψ v v' → HR B L ψ h' w' → Step φ h w ψ h' w' → K (a.put o.dst v') w') : wpOp P ops Q i K a w := by
  unfold compOper at hc
  split at hc <;> try contradiction
  rename_i g act hd hg hact
  cases hc
  unfold wpOp
  simp only [hi]
  unfold evalOper at he
  simp only at he
  split at he <;> try contradiction
  rename_i hgk
  have hw := wanted_ok ht hg hgk
  split at he
  · rename_i hwa
    rw [hw, hwa]
    cases he
    simp only [Bool.false_eq_true, if_false]
    exact hK undef w φ (.undef φ) r (.refl _ _ _)
  · rename_i hwa
    rw [hw, hwa]
    simp only [if_true]
    refine .inl ?_
    unfold compAct at hact
    split at hact
    · rename_i c hcomp
      cases hact
      simp only at he
      obtain ⟨nx, w', ψ, hrun, hnx, hr', hst⟩ := compOp_ok hix r ht hcomp he
      unfold Oper.wp
      rw [hrun]
      rcases hnx with ⟨v', rfl, hv⟩ | ⟨rfl, rfl⟩
      · exact hK v' w' ψ hv hr' hst
      · exact hK undef w' ψ (.undef ψ) hr' hst
    · split at hact
      rotate_left
      · cases hact
      · cases hact; cases he
      rename_i cl hop
      split at hact
      rotate_left
      · cases hact; cases he
      rename_i f hcal
      split at hact
      rotate_left
      · cases hact; cases he
      rename_i fo args h1 h2
      cases hact
      simp only at he
      have hf := aev_ok ht h1
      have hargs := aevs_ok ht h2
      split at he <;> try contradiction
      rename_i fid first cap e1
      rw [e1] at hf
      unfold Oper.wp
      revert hf
      generalize hfe : a.eval f = fv
      intro hf
      cases hf with
      | @func _ _ _ fa fb hfa hfb =>
        have hall : VRs φ (first ++ aevs args m ++ cap) (fa ++ cl.args.map a.eval ++ fb).toList := by
          simp only [Array.toList_append, Array.toList_map]
          exact (hfa.append hargs).append hfb
        obtain ⟨⟨fn, code, hfn, hname, hbody⟩, hcall⟩ := hev _ _ _ _ _ he φ w _ r hall
        have hrun : (execOp a.eval o).run P w = .ok (.enter fid (fa ++ cl.args.map a.eval ++ fb)) w := by
          unfold execOp
          simp only [hop, Sem.run_bind, resolve, hcal, hfe, Deferred.ofValue, Sem.run_pure, Result.andThen_ok, invoke]
          exact run_enter hfn hname hbody _ w
        rw [hrun]
        exact hcall _ fun v' w' ψ hv hr' hst => hK v' w' ψ hv hr' hst

/-- a list of operations, in the order of the list -/
theorem opers_ok (hix : IxOk B P ix) (hev : FnOk B L P ev) {ops : Array Oper} {Q : Exit → Act → World → Prop} :
    ∀ (is : List Nat) (l : List Oper) (cs : List COper) (φ : Phi) (h : H) (w : World) (m : Tr AV) (a : Act), (∀ (j : Nat) (o : Oper), l[j]? = some o → ∃ i : Nat, is[j]? = some i ∧ ops[i]? = some o) → is.length = l.length → compOpers P ix N ops l = some cs →
    HR B L φ h w → TR φ m a → N ≤ a.tmps.size → ∀ m' h', evalOpers L ev cs m h = some (m', h') →
    (∀ a' w' ψ, TR ψ m' a' → HR B L ψ h' w' → Step φ h w ψ h' w' → N ≤ a'.tmps.size → a'.defers = a.defers → Q .normal a' w') → wpOps P ops Q is a w := by
  intro is
  induction is with
  | nil =>
    intro l cs φ h w m a _ hlen hc r ht hN m' h' he hQ
    cases l with
    | nil =>
      cases hc
      cases he
      exact hQ a w φ ht r (.refl _ _ _) hN rfl
    | cons _ _ => cases hlen
  | cons i is ih =>
    intro l cs φ h w m a hidx hlen hc r ht hN m' h' he hQ
    cases l with
    | nil => cases hlen
    | cons o l =>
      simp only [compOpers] at hc
      split at hc <;> try contradiction
      rename_i c cr hc1 hc2
      cases hc
      simp only [evalOpers] at he
      split at he <;> try contradiction
      rename_i v h1 he1
      have hi : ops[i]? = some o := by
        obtain ⟨i', e1, e2⟩ := hidx 0 o rfl
        cases e1
        exact e2
      rw [wpOps_cons]
      have hdst : c.dst = o.dst ∧ dstOk N o.dst = true := by
        unfold compOper at hc1
        split at hc1 <;> try contradiction
        cases hc1
        rename_i hd _ _
        exact ⟨rfl, hd⟩
      refine oper_ok hix hev r ht hi hc1 he1 fun v' w' ψ hv hr' hst => ?_
      refine ih l cr ψ h1 w' _ _ (fun j o' hj => ?_) (by simpa using hlen) hc2 hr' ((ht.mono hst.le).put hv hdst.2 hN) (by rw [put_size]; exact hN) m' h' (by rw [← hdst.1]; exact he) fun a' w'' χ h1 h2 h3 h4 h5 => ?_
      · obtain ⟨i', e1, e2⟩ := hidx (j + 1) o' (by simpa using hj)
        exact ⟨i', by simpa using e1, e2⟩
      · exact hQ a' w'' χ h1 h2 (hst.trans h3) h4 (h5.trans (put_defers _ _ _))

theorem region_ok (hix : IxOk B P ix) (hev : FnOk B L P ev) {id : Nat} {ops : Array Oper} {Q : Exit → Act → World → Prop} {cs : List COper} (hc : compOpers P ix N ops ops.toList = some cs)
    (r : HR B L φ h w) (ht : TR φ m a) (hN : N ≤ a.tmps.size) {m' : Tr AV} {h' : H} (he : evalOpers L ev cs m h = some (m', h'))
    (hQ : ∀ a' w' ψ, TR ψ m' a' → HR B L ψ h' w' → Step φ h w ψ h' w' → N ≤ a'.tmps.size → a'.defers = a.defers → Q .normal a' w') : (Code.region id ops false).wp P Q a w := by
  refine wp_region ?_
  refine opers_ok hix hev (List.range ops.size) ops.toList cs φ h w m a (fun j o hj => ?_) (by simp) hc r ht hN m' h' he hQ
  have hlt : j < ops.size := by
    have := (List.getElem?_eq_some_iff.1 hj).1
    simpa using this
  exact ⟨j, by simp [hlt], by rw [← Array.getElem?_toList]; exact hj⟩

end
end Go.Clean

namespace Go.Clean

def aoLooks : AO → List Nat
  | .tmp t => [t]
  | _ => []
def aosLooks : List AO → List Nat
  | [] => []
  | o :: l => aoLooks o ++ aosLooks l
def aoOLooks : Option AO → List Nat
  | some o => aoLooks o
  | none => []
def partsLooks : List (Nat × Nat × AO) → List Nat
  | [] => []
  | (_, _, o) :: l => aoLooks o ++ partsLooks l

def opLooks : COp → List Nat
  | .move x => aoLooks x
  | .pick c a b => aoLooks c ++ aoLooks a ++ aoLooks b
  | .alloc _ _ => []
  | .box _ x => aoLooks x
  | .build _ ps => partsLooks ps
  | .buildSlice _ _ _ ps => partsLooks ps
  | .load _ _ a => aoLooks a
  | .store _ a x => aoLooks a ++ aoLooks x
  | .nilCheck x => aoLooks x
  | .arith _ x y => aoLooks x ++ aoLooks y
  | .eq _ _ x y => aoLooks x ++ aoLooks y
  | .un _ x => aoLooks x
  | .toInt _ x => aoLooks x
  | .strToBytes _ x => aoLooks x
  | .bytesToStr x => aoLooks x
  | .strToStr x => aoLooks x
  | .makeIface _ x => aoLooks x
  | .makeFunc _ a b => aosLooks a ++ aosLooks b
  | .makeMap => []
  | .makeSlice _ _ _ l c => aoLooks l ++ aoLooks c
  | .slice _ x lo hi mx => aoLooks x ++ aoOLooks lo ++ aoOLooks hi ++ aoOLooks mx
  | .fieldAddr _ x => aoLooks x
  | .field _ _ _ x => aoLooks x
  | .idxArr _ _ x i => aoLooks x ++ aoLooks i
  | .idxRow _ x i => aoLooks x ++ aoLooks i
  | .idxStr x i => aoLooks x ++ aoLooks i
  | .idxAgg _ _ _ x i => aoLooks x ++ aoLooks i
  | .bytesMark x => aoLooks x
  | .toUnsafe x => aoLooks x
  | .fromUnsafe _ _ x => aoLooks x
  | .lookup _ _ x i _ => aoLooks x ++ aoLooks i
  | .mapUpdate _ m k v => aoLooks m ++ aoLooks k ++ aoLooks v
  | .extract x _ => aoLooks x
  | .lenStr x => aoLooks x
  | .lenRow x => aoLooks x
  | .lenMap x => aoLooks x
  | .lenArr _ => []
  | .capRow x => aoLooks x
  | .appendZ _ _ _ _ s x => aoLooks s ++ aoLooks x
  | .overlaps _ x y => aoLooks x ++ aoLooks y
  | .append _ _ _ s x => aoLooks s ++ aoLooks x
  | .copy _ d s => aoLooks d ++ aoLooks s
  | .minmax _ a b => aoLooks a ++ aoLooks b
  | .clear _ x => aoLooks x
  | .sliceData x => aoLooks x
  | .unsafeStr _ p n => aoLooks p ++ aoLooks n
  | .idxByteStr s c => aoLooks s ++ aoLooks c
  | .fail => []
def actLooks : CAct → List Nat
  | .op c => opLooks c
  | .call f args => aoLooks f ++ aosLooks args
def coLooks (c : COper) : List Nat := (match c.guard with | some (t, _) => [t] | none => []) ++ actLooks c.act

/-- 0: the heap does not matter; 1: it is read; 2: it is changed -/
def opKind : COp → Nat
  | .load _ _ _ => 1
  | .lookup _ _ _ _ _ => 1
  | .lenMap _ => 1
  | .bytesToStr _ => 1
  | .toUnsafe _ => 1
  | .fromUnsafe _ _ _ => 1
  | .overlaps _ _ _ => 1
  | .alloc _ _ => 2
  | .box _ _ => 2
  | .buildSlice _ _ _ _ => 2
  | .store _ _ _ => 2
  | .strToBytes _ _ => 2
  | .makeMap => 2
  | .makeSlice _ _ _ _ _ => 2
  | .mapUpdate _ _ _ _ => 2
  | .append _ _ _ _ _ => 2
  | .appendZ _ _ _ _ _ _ => 2
  | .copy _ _ _ => 2
  | .clear _ _ => 2
  | .bytesMark _ => 2
  | .unsafeStr _ _ _ => 2
  | _ => 0
def actKind : CAct → Nat
  | .op c => opKind c
  | .call _ _ => 2

section
variable {L : Laid} {m m' : Tr AV} {ev : Ev}

theorem aev_congr {o : AO} (h : ∀ t ∈ aoLooks o, aev (.tmp t) m = aev (.tmp t) m') : aev o m = aev o m' := by
  cases o with
  | tmp t => exact h t (.head _)
  | _ => rfl
theorem aevs_congr : ∀ {l : List AO}, (∀ t ∈ aosLooks l, aev (.tmp t) m = aev (.tmp t) m') → aevs l m = aevs l m' := by
  intro l
  induction l with
  | nil => intro _; rfl
  | cons o l ih =>
    intro h
    simp only [aevs]
    rw [aev_congr fun t ht => h t (List.mem_append_left _ ht), ih fun t ht => h t (List.mem_append_right _ ht)]
theorem aevO_congr {o : Option AO} (h : ∀ t ∈ aoOLooks o, aev (.tmp t) m = aev (.tmp t) m') : aevO o m = aevO o m' := by
  cases o with
  | none => rfl
  | some o => simp only [aevO]; rw [aev_congr h]
theorem partsA_congr : ∀ {l : List (Nat × Nat × AO)}, (∀ t ∈ partsLooks l, aev (.tmp t) m = aev (.tmp t) m') → partsA m l = partsA m' l := by
  intro l
  induction l with
  | nil => intro _; rfl
  | cons p l ih =>
    intro h
    obtain ⟨i, j, o⟩ := p
    simp only [partsA]
    rw [aev_congr fun t ht => h t (List.mem_append_left _ ht), ih fun t ht => h t (List.mem_append_right _ ht)]

theorem op_congr {c : COp} (h : ∀ t ∈ opLooks c, aev (.tmp t) m = aev (.tmp t) m') (hp : H) : evalOp L c m hp = evalOp L c m' hp := by
  cases c
  case slice k x lo hi mx =>
    simp only [opLooks, List.mem_append] at h
    simp only [evalOp]
    rw [aev_congr fun t ht => h t (.inl (.inl (.inl ht))), aevO_congr fun t ht => h t (.inl (.inl (.inr ht))), aevO_congr fun t ht => h t (.inl (.inr ht)), aevO_congr fun t ht => h t (.inr ht)]
  case pick c a b =>
    simp only [opLooks, List.mem_append] at h
    simp only [evalOp]
    rw [aev_congr fun t ht => h t (.inl (.inl ht)), aev_congr (o := a) fun t ht => h t (.inl (.inr ht)), aev_congr (o := b) fun t ht => h t (.inr ht)]
  case mapUpdate k a b c =>
    simp only [opLooks, List.mem_append] at h
    simp only [evalOp]
    rw [aev_congr (o := a) fun t ht => h t (.inl (.inl ht)), aev_congr (o := b) fun t ht => h t (.inl (.inr ht)), aev_congr (o := c) fun t ht => h t (.inr ht)]
  case makeFunc f a b =>
    simp only [opLooks, List.mem_append] at h
    simp only [evalOp]
    rw [aevs_congr (l := a) fun t ht => h t (.inl ht), aevs_congr (l := b) fun t ht => h t (.inr ht)]
  case build z ps => simp only [evalOp]; rw [partsA_congr h]
  case buildSlice T z n ps => simp only [evalOp]; rw [partsA_congr h]
  case alloc => rfl
  case makeMap => rfl
  case lenArr => rfl
  case fail => rfl
  all_goals simp only [opLooks, List.mem_append] at h
  all_goals simp only [evalOp]
  all_goals first
    | (rw [aev_congr fun t ht => h t (.inl ht), aev_congr fun t ht => h t (.inr ht)]; done)
    | (rw [aev_congr h]; done)
    | (rename_i x y; rw [aev_congr (o := x) fun t ht => h t (.inl ht), aev_congr (o := y) fun t ht => h t (.inr ht)]; done)

theorem oper_congr {c : COper} (h : ∀ t ∈ coLooks c, aev (.tmp t) m = aev (.tmp t) m') (hp : H) : evalOper L ev c m hp = evalOper L ev c m' hp := by
  unfold coLooks at h
  unfold evalOper
  have hw : wantedA c.guard m = wantedA c.guard m' := by
    unfold wantedA
    cases hg : c.guard with
    | none => rfl
    | some p =>
      obtain ⟨t, b⟩ := p
      rw [hg] at h
      simp only
      rw [h t (List.mem_append_left _ (.head _))]
  have hw2 : guardOk c.guard m = guardOk c.guard m' := by
    unfold guardOk
    cases hg : c.guard with
    | none => rfl
    | some p =>
      obtain ⟨t, b⟩ := p
      rw [hg] at h
      simp only
      rw [h t (List.mem_append_left _ (.head _))]
  rw [hw, hw2]
  have ha : ∀ t ∈ actLooks c.act, aev (.tmp t) m = aev (.tmp t) m' := fun t ht => h t (List.mem_append_right _ ht)
  cases hact : c.act with
  | op o => rw [hact] at ha; simp only; rw [op_congr ha]
  | call f args =>
    rw [hact] at ha
    simp only [actLooks, List.mem_append] at ha
    simp only
    rw [aev_congr fun t ht => ha t (.inl ht), aevs_congr fun t ht => ha t (.inr ht)]

/-- the heap is left alone -/
theorem op_keeps {c : COp} (hk : opKind c ≠ 2) {h h' : H} {v : AV} (he : evalOp L c m h = some (v, h')) : h' = h := by
  cases c
  all_goals first
    | (exact absurd rfl hk)
    | (simp only [evalOp] at he)
  all_goals
    repeat' split at he
  all_goals first
    | (cases he; rfl)
    | (cases he; done)
    | contradiction

theorem op_pure {c : COp} (hk : opKind c = 0) {h h' : H} {v : AV} (he : evalOp L c m h = some (v, h')) (h2 : H) : evalOp L c m h2 = some (v, h2) := by
  have hh := op_keeps (by rw [hk]; decide) he
  subst hh
  cases c
  all_goals first
    | (cases hk; done)
    | skip
  all_goals
    simp only [evalOp] at he ⊢
  all_goals
    repeat' split at he
  all_goals first
    | (cases he; simp_all; done)
    | (cases he; done)
    | contradiction

end
end Go.Clean

namespace Go.Clean

section
variable {B : Base} {L : Laid} {P : Program} {φ : Phi} {h : H} {w : World}

/-- a block reserved: nothing stands for it yet -/
theorem HR.reserve (r : HR B L φ h w) (o : AObj) : HR B L φ (newB h o) w ∧ Step φ h w φ (newB h o) w ∧ φ h.next = none := by
  have hn := r.none_next
  refine ⟨⟨?_, ?_, ?_, r.laid, r.base, r.marks, ?_⟩, ⟨.refl _, ?_, ?_, Nat.le_refl _, fun _ _ h => h, fun _ _ _ => rfl, rfl, rfl, rfl⟩, hn⟩
  · intro b c d hb
    have := r.dom b c d hb
    exact ⟨Nat.lt_succ_of_lt this.1, this.2⟩
  · intro b c d o' hb hg
    have hne : b ≠ h.next := Nat.ne_of_lt (r.dom b c d hb).1
    simp only [newB] at hg
    rw [Tr.get_set_ne _ _ hne] at hg
    exact r.obj b c d o' hb hg
  · intro b1 b2 c d d' o1 o2 h1 h2 g1 g2 l1 l2
    have n1 : b1 ≠ h.next := Nat.ne_of_lt (r.dom b1 c d h1).1
    have n2 : b2 ≠ h.next := Nat.ne_of_lt (r.dom b2 c d' h2).1
    simp only [newB] at g1 g2
    rw [Tr.get_set_ne _ _ n1] at g1
    rw [Tr.get_set_ne _ _ n2] at g2
    exact r.inj b1 b2 c d d' o1 o2 h1 h2 g1 g2 l1 l2
  · intro b o' hg
    simp only [newB] at hg ⊢
    by_cases e : b = h.next
    · omega
    · rw [Tr.get_set_ne _ _ e] at hg
      have := r.fresh b o' hg; omega
  · intro b hb e
    have hne : b ≠ h.next := Nat.ne_of_lt hb
    exact ⟨e, by simp only [newB]; rw [Tr.get_set_ne _ _ hne]⟩
  · simp [newB]

/-- it is made -/
theorem HR.realize (r : HR B L φ h w) {b : Nat} {o : AObj} {x : Obj} {D : Nat × Nat} (hb : φ b = none) (hg : h.m.get b = some o) (ho : OR (put φ b w.heap.size D) o D (some x)) :
    HR B L (put φ b w.heap.size D) h { w with heap := w.heap.push x } := by
  have hle : Le φ (put φ b w.heap.size D) := .put _ _ hb
  have hold : ∀ c, c < w.heap.size → (w.heap.push x)[c]? = w.heap[c]? := fun c hc => by
    rw [Array.getElem?_push, if_neg (Nat.ne_of_lt hc)]
  have hcase : ∀ b' c d, put φ b w.heap.size D b' = some (c, d) → (b' = b ∧ c = w.heap.size ∧ d = D) ∨ (b' ≠ b ∧ φ b' = some (c, d)) := by
    intro b' c d hb'
    by_cases e : b' = b
    · subst e; rw [put_same] at hb'; cases hb'; exact .inl ⟨rfl, rfl, rfl⟩
    · rw [put_ne φ _ _ e] at hb'; exact .inr ⟨e, hb'⟩
  refine ⟨?_, ?_, ?_, ?_, ?_, r.marks, r.fresh⟩
  · intro b' c d hb'
    simp only [Array.size_push]
    rcases hcase b' c d hb' with ⟨rfl, rfl, rfl⟩ | ⟨_, hb1⟩
    · exact ⟨r.fresh _ _ hg, r.base, Nat.lt_succ_self _⟩
    · have := r.dom b' c d hb1; omega
  · intro b' c d o' hb' hg'
    rcases hcase b' c d hb' with ⟨e1, e2, e3⟩ | ⟨hne, hb1⟩
    · subst e1; subst e2; subst e3
      rw [hg] at hg'
      cases hg'
      have : ({ w with heap := w.heap.push x } : World).heap[w.heap.size]? = some x := by simp
      rw [this]; exact ho
    · show OR _ _ _ (w.heap.push x)[c]?
      rw [hold c (r.dom b' c d hb1).2.2]
      exact (r.obj b' c d o' hb1 hg').mono hle
  · intro b1 b2 c d d' o1 o2 h1 h2 g1 g2 l1 l2
    rcases hcase b1 c d h1 with ⟨e1, e2, _⟩ | ⟨n1, h1'⟩
    · rcases hcase b2 c d' h2 with ⟨e1', _, _⟩ | ⟨_, h2'⟩
      · rw [e1, e1']
      · have := (r.dom b2 _ d' h2').2.2; omega
    · rcases hcase b2 c d' h2 with ⟨e1', e2', _⟩ | ⟨_, h2'⟩
      · have := (r.dom b1 _ d h1').2.2; omega
      · exact r.inj b1 b2 c d d' o1 o2 h1' h2' g1 g2 l1 l2
  · intro g o' v hv
    obtain ⟨h1, h2, y, hy, h3⟩ := r.laid g o' v hv
    refine ⟨h1, h2, y, ?_, h3⟩
    have : (w.heap.push x)[g]? = w.heap[g]? := hold g (Nat.lt_of_lt_of_le h1 r.base)
    simpa [World.cell?, this] using hy
  · have := r.base; simp; omega

theorem Step.realize {φ0 : Phi} {h0 : H} {w0 : World} (s : Step φ0 h0 w0 φ h w) {b : Nat} {x : Obj} {D : Nat × Nat} (hb : φ b = none) (hn : h0.next ≤ b) :
    Step φ0 h0 w0 (put φ b w.heap.size D) h { w with heap := w.heap.push x } := by
  refine ⟨s.le.trans (.put _ _ hb), ?_, s.next, ?_, ?_, ?_, s.tape, s.os, s.output⟩
  · intro b' hb' e
    obtain ⟨e1, e2⟩ := s.keep b' hb' e
    exact ⟨by rw [put_ne φ _ _ (by omega)]; exact e1, e2⟩
  · have := s.size; simp; omega
  · rintro c hc ⟨b', d, hb'⟩
    by_cases e : b' = b
    · subst e; rw [put_same] at hb'; cases hb'; have := s.size; omega
    · rw [put_ne φ _ _ e] at hb'; exact s.own c hc ⟨b', d, hb'⟩
  · intro c hc hno
    have : c < w.heap.size := Nat.lt_of_lt_of_le hc s.size
    show (w.heap.push x)[c]? = _
    rw [Array.getElem?_push, if_neg (Nat.ne_of_lt this)]
    exact s.same c hc hno
end

/-! ### the run in the order of the text -/
structure DOper where
  co : COper
  kind : Nat         -- 0: pure; 1: reads the heap; 2: changes it; 3: makes a block that nothing else depends on
  rs : List Nat      -- 1: the other places at which it may be run

def preD (L : Laid) : List DOper → H → Option (List (Option AV) × H)
  | [], h => some ([], h)
  | d :: l, h => match Nat.beq d.kind 3 with
    | true => match d.co.act with
      | .op c => match evalOp L c .leaf h with
        | some (v, h') => match preD L l h' with
          | some (vs, h'') => some (some v :: vs, h'')
          | none => none
        | none => none
      | _ => none
    | false => match preD L l h with
      | some (vs, h'') => some (none :: vs, h'')
      | none => none

def freeV (g : Option (Nat × Bool)) (m : Tr AV) (v : AV) : AV :=
  match wantedA g m with
  | true => v
  | false => .undef

def runD (L : Laid) (ev : Ev) : List DOper → List (Option AV) → Tr AV → H → Option (List (AV × Tr AV) × List H × Tr AV)
  | [], _, m, _ => some ([], [], m)
  | d :: l, p :: ps, m, h =>
    match (match p with
      | some v => match guardOk d.co.guard m with
        | true => some (freeV d.co.guard m v, h)
        | false => none
      | none => evalOper L ev d.co m h) with
    | some (v, h') => match runD L ev l ps (putA d.co.dst v m) h' with
      | some (vs, hs, m') => some ((v, m) :: vs, h' :: hs, m')
      | none => none
    | none => none
  | _ :: _, [], _, _ => none

mutual
def avEq : AV → AV → Bool
  | .bool a, .bool b => a == b
  | .int k a, .int k' b => if k = k' then iBeq a b else false
  | .str a, .str b => eqNats a b
  | .nilPtr, .nilPtr => true
  | .ptr a b, .ptr c d => Nat.beq a c && Nat.beq b d
  | .gptr a b, .gptr c d => Nat.beq a c && Nat.beq b d
  | .nilSlice, .nilSlice => true
  | .slice a b c d e, .slice a' b' c' d' e' => Nat.beq a a' && Nat.beq b b' && Nat.beq c c' && Nat.beq d d' && Nat.beq e e'
  | .eslice, .eslice => true
  | .nilMap, .nilMap => true
  | .map a, .map b => Nat.beq a b
  | .nilFunc, .nilFunc => true
  | .func f a b, .func g c d => Nat.beq f g && avEqs a c && avEqs b d
  | .nilIface, .nilIface => true
  | .iface t a, .iface u b => Nat.beq t u && avEq a b
  | .agg a, .agg b => avEqs a b
  | .tuple a, .tuple b => avEqs a b
  | .tok i, .tok j => Nat.beq i j
  | .itok i a b, .itok j c d => Nat.beq i j && iBeq a c && iBeq b d
  | _, _ => false
def avEqs : List AV → List AV → Bool
  | [], [] => true
  | a :: l, b :: m => match avEq a b with
    | true => avEqs l m
    | false => false
  | _, _ => false
end

mutual
theorem avEq_ok : ∀ {a b : AV}, avEq a b = true → a = b
  | .bool _, b, h => by cases b <;> simp only [avEq, Bool.false_eq_true] at h; rw [eq_of_beq h]
  | .int _ _, b, h => by
    cases b <;> simp only [avEq, Bool.false_eq_true] at h
    split at h
    · rename_i e; subst e; rw [iBeq_eq] at h; rw [eq_of_beq h]
    · cases h
  | .str _, b, h => by cases b <;> simp only [avEq, Bool.false_eq_true] at h; rw [eqNats_eq] at h; rw [eq_of_beq h]
  | .nilPtr, b, h => by cases b <;> simp only [avEq, Bool.false_eq_true] at h; rfl
  | .ptr _ _, b, h => by cases b <;> simp only [avEq, Bool.false_eq_true, Bool.and_eq_true, Nat.beq_eq] at h; rw [h.1, h.2]
  | .gptr _ _, b, h => by cases b <;> simp only [avEq, Bool.false_eq_true, Bool.and_eq_true, Nat.beq_eq] at h; rw [h.1, h.2]
  | .nilSlice, b, h => by cases b <;> simp only [avEq, Bool.false_eq_true] at h; rfl
  | .slice _ _ _ _ _, b, h => by cases b <;> simp only [avEq, Bool.false_eq_true, Bool.and_eq_true, Nat.beq_eq] at h; rw [h.1.1.1.1, h.1.1.1.2, h.1.1.2, h.1.2, h.2]
  | .eslice, b, h => by cases b <;> simp only [avEq, Bool.false_eq_true] at h; rfl
  | .nilMap, b, h => by cases b <;> simp only [avEq, Bool.false_eq_true] at h; rfl
  | .map _, b, h => by cases b <;> simp only [avEq, Bool.false_eq_true, Nat.beq_eq] at h; rw [h]
  | .nilFunc, b, h => by cases b <;> simp only [avEq, Bool.false_eq_true] at h; rfl
  | .func _ _ _, b, h => by
    cases b <;> simp only [avEq, Bool.false_eq_true, Bool.and_eq_true, Nat.beq_eq] at h
    rw [h.1.1, avEqs_ok h.1.2, avEqs_ok h.2]
  | .nilIface, b, h => by cases b <;> simp only [avEq, Bool.false_eq_true] at h; rfl
  | .iface _ _, b, h => by cases b <;> simp only [avEq, Bool.false_eq_true, Bool.and_eq_true, Nat.beq_eq] at h; rw [h.1, avEq_ok h.2]
  | .agg _, b, h => by cases b <;> simp only [avEq, Bool.false_eq_true] at h; rw [avEqs_ok h]
  | .tuple _, b, h => by cases b <;> simp only [avEq, Bool.false_eq_true] at h; rw [avEqs_ok h]
  | .tok _, b, h => by cases b <;> simp only [avEq, Bool.false_eq_true, Nat.beq_eq] at h; rw [h]
  | .itok _ _ _, b, h => by cases b <;> simp only [avEq, Bool.false_eq_true, Bool.and_eq_true, Nat.beq_eq, iBeq_eq, beq_iff_eq] at h; rw [h.1.1, h.1.2, h.2]
  | .raw _, b, h => by cases b <;> simp only [avEq, Bool.false_eq_true] at h
theorem avEqs_ok : ∀ {a b : List AV}, avEqs a b = true → a = b
  | [], b, h => by cases b <;> simp only [avEqs, Bool.false_eq_true] at h; rfl
  | _ :: _, b, h => by
    cases b <;> simp only [avEqs, Bool.false_eq_true] at h
    split at h
    · rename_i h1; rw [avEq_ok h1, avEqs_ok h]
    · cases h
end

def againD (L : Laid) (ev : Ev) (hs : List H) (c : COper) (v : AV) (m : Tr AV) : List Nat → Bool
  | [] => true
  | s :: l => match nth hs s with
    | some h => match evalOper L ev c m h with
      | some (v', _) => match avEq v v' with
        | true => againD L ev hs c v m l
        | false => false
      | none => false
    | none => false
def checkD (L : Laid) (ev : Ev) (hs : List H) : List DOper → List (AV × Tr AV) → Bool
  | d :: l, (v, m) :: vs => match againD L ev hs d.co v m d.rs with
    | true => checkD L ev hs l vs
    | false => false
  | _, _ => true
def evalDraw (L : Laid) (ev : Ev) (ds : List DOper) (m : Tr AV) (h : H) : Option (Tr AV × H) :=
  match preD L ds h with
  | some (ps, h0) => match runD L ev ds ps m h0 with
    | some (vs, hs, m') => match checkD L ev (h0 :: hs) ds vs with
      | true => match nth (h0 :: hs) ds.length with
        | some h' => some (m', h')
        | none => none
      | false => none
    | none => none
  | none => none

section
variable {L : Laid} {ev : Ev}

theorem runD_spec : ∀ {ds : List DOper} {ps : List (Option AV)} {m : Tr AV} {h : H} {vs : List (AV × Tr AV)} {hs : List H} {m' : Tr AV}, runD L ev ds ps m h = some (vs, hs, m') →
    ∃ (V : Nat → AV) (M : Nat → Tr AV) (HS : Nat → H), M 0 = m ∧ HS 0 = h ∧ M ds.length = m' ∧
      (∀ x d, ds[x]? = some d → ps[x]? = some none → evalOper L ev d.co (M x) (HS x) = some (V x, HS (x + 1))) ∧
      (∀ x d v, ds[x]? = some d → ps[x]? = some (some v) → V x = freeV d.co.guard (M x) v ∧ HS (x + 1) = HS x ∧ guardOk d.co.guard (M x) = true) ∧
      (∀ x d, ds[x]? = some d → M (x + 1) = putA d.co.dst (V x) (M x)) ∧
      (∀ x, x < ds.length → vs[x]? = some (V x, M x)) ∧
      (∀ s, s ≤ ds.length → (h :: hs)[s]? = some (HS s)) := by
  intro ds
  induction ds with
  | nil =>
    intro ps m h vs hs m' he
    cases he
    refine ⟨fun _ => .undef, fun _ => m, fun _ => h, rfl, rfl, rfl, ?_, ?_, ?_, ?_, ?_⟩
    · intro x d hx; simp at hx
    · intro x d v hx; simp at hx
    · intro x d hx; simp at hx
    · intro x hx; simp at hx
    · intro s hs; have : s = 0 := by simpa using hs
      subst this; rfl
  | cons d ds ih =>
    intro ps m h vs hs m' he
    cases ps with
    | nil => cases he
    | cons p ps =>
      simp only [runD] at he
      split at he <;> try contradiction
      rename_i v h1 hv
      split at he <;> try contradiction
      rename_i vs' hs' m'' hr
      cases he
      obtain ⟨V, M, HS, e1, e2, e3, e4, e5, e6, e7, e8⟩ := ih hr
      refine ⟨fun x => match x with | 0 => v | x + 1 => V x, fun x => match x with | 0 => m | x + 1 => M x, fun x => match x with | 0 => h | x + 1 => HS x, rfl, rfl, e3, ?_, ?_, ?_, ?_, ?_⟩
      · intro x d' hx hp
        cases x with
        | zero =>
          cases hx
          cases hp
          simp only at hv
          show evalOper L ev d.co m h = some (v, HS 0)
          rw [hv, e2]
        | succ x => exact e4 x d' (by simpa using hx) (by simpa using hp)
      · intro x d' u hx hp
        cases x with
        | zero =>
          cases hx
          cases hp
          simp only at hv
          split at hv <;> try contradiction
          rename_i hgk
          cases hv
          exact ⟨rfl, e2, hgk⟩
        | succ x => exact e5 x d' u (by simpa using hx) (by simpa using hp)
      · intro x d' hx
        cases x with
        | zero => cases hx; exact e1
        | succ x => exact e6 x d' (by simpa using hx)
      · intro x hx
        cases x with
        | zero => rfl
        | succ x => simpa using e7 x (by simpa using hx)
      · intro s hs'
        cases s with
        | zero => rfl
        | succ s => simpa using e8 s (by simpa using hs')

theorem againD_ok {hs : List H} {c : COper} {v : AV} {m : Tr AV} : ∀ {l : List Nat}, againD L ev hs c v m l = true → ∀ s ∈ l, ∃ h h', hs[s]? = some h ∧ evalOper L ev c m h = some (v, h') := by
  intro l
  induction l with
  | nil => intro _ s hs; cases hs
  | cons s l ih =>
    intro h s' hs'
    simp only [againD] at h
    split at h <;> try contradiction
    rename_i h0 hh
    split at h <;> try contradiction
    rename_i v' h1 he
    split at h <;> try contradiction
    rename_i hv
    cases hs' with
    | head => exact ⟨h0, h1, by rw [← nth_eq]; exact hh, by rw [avEq_ok hv]; exact he⟩
    | tail _ hs' => exact ih h s' hs'
theorem checkD_ok {hs : List H} : ∀ {ds : List DOper} {vs : List (AV × Tr AV)}, checkD L ev hs ds vs = true → ∀ (x : Nat) (d : DOper) (v : AV) (m : Tr AV), ds[x]? = some d → vs[x]? = some (v, m) → againD L ev hs d.co v m d.rs = true := by
  intro ds
  induction ds with
  | nil => intro vs _ x d v m hx; simp at hx
  | cons d ds ih =>
    intro vs h x d' v m hx hv
    cases vs with
    | nil => simp at hv
    | cons p vs =>
      obtain ⟨v0, m0⟩ := p
      simp only [checkD] at h
      split at h <;> try contradiction
      rename_i h1
      cases x with
      | zero => cases hx; cases hv; exact h1
      | succ x => exact ih h x d' v m (by simpa using hx) (by simpa using hv)
end
end Go.Clean

namespace Go.Clean

def direct (o : Oper) : List Nat := (o.after.toList.filter (Region.binds .any)).map (·.on)
def maskOf (acc : List Nat) : List Nat → Nat
  | [] => 0
  | p :: ds => match nth acc p with
    | some mp => (Nat.lor (Nat.lor (Nat.shiftLeft 1 p) mp) (maskOf acc ds))
    | none => maskOf acc ds
def masks : List Oper → List Nat → List Nat
  | [], acc => acc
  | o :: l, acc => masks l (acc ++ [maskOf acc (direct o)])

/-- x comes behind j, whatever the order -/
def behind (ms : List Nat) (x j : Nat) : Bool :=
  match nth ms x with
  | some k => Nat.testBit k j
  | none => false

def kindAt (ds : List DOper) (x : Nat) : Nat :=
  match nth ds x with
  | some d => d.kind
  | none => 0

def isConstAO : AO → Bool
  | .const _ => true
  | _ => false
def freeOp : CAct → Bool
  | .op (.alloc _ _) => true
  | .op (.makeSlice _ _ _ l c) => isConstAO l && isConstAO c
  | _ => false

def kindOk (d : DOper) : Bool :=
  match d.kind with
  | 0 => Nat.beq (actKind d.co.act) 0
  | 1 => Nat.beq (actKind d.co.act) 1
  | 2 => true
  | 3 => freeOp d.co.act
  | _ => false

def looksOk (ms : List Nat) (d : DOper) (x j : Nat) (dj : DOper) : Bool :=
  match dj.co.dst with
  | none => true
  | some t => Nat.beq j x || ((!(coLooks d.co).contains t || behind ms x j || behind ms j x) && d.co.dst != some t)
def chainOk (ms : List Nat) (d : DOper) (x j : Nat) (dj : DOper) : Bool :=
  !(Nat.beq d.kind 2 && Nat.beq dj.kind 2 && Nat.blt j x) || behind ms x j
def never (ds : List DOper) (ms : List Nat) (n x s : Nat) : Bool :=
  (List.range n).any fun y => Nat.beq (kindAt ds y) 2 && ((behind ms x y && Nat.ble s y) || (behind ms y x && Nat.blt y s))
def okAt (ds : List DOper) (ms : List Nat) (n : Nat) (d : DOper) (x s : Nat) : Bool :=
  Nat.beq s x || d.rs.contains s || never ds ms n x s || match s with
    | 0 => false
    | s + 1 => !Nat.beq (kindAt ds s) 2
def opOk (ds : List DOper) (ms : List Nat) (n : Nat) (o : Oper) (d : DOper) (x : Nat) : Bool :=
  (direct o).all (fun p => Nat.blt p x) && kindOk d &&
  ((List.range n).all fun j => match nth ds j with
    | some dj => looksOk ms d x j dj && chainOk ms d x j dj
    | none => false) &&
  (!Nat.beq d.kind 1 || (List.range (n + 1)).all fun s => okAt ds ms n d x s)
def drawOk (ops : List Oper) (ds : List DOper) : Bool :=
  let ms := masks ops []
  Nat.beq ds.length ops.length &&
  (List.range ops.length).all fun x => match nth ops x, nth ds x with
    | some o, some d => opOk ds ms ops.length o d x
    | _, _ => false

/-! ### what the masks say -/
def Closed (ops : List Oper) (D : Nat → Prop) : Prop := ∀ x o, ops[x]? = some o → D x → ∀ p ∈ direct o, D p

theorem maskOf_spec {acc : List Nat} : ∀ {ds : List Nat} {j : Nat}, Nat.testBit (maskOf acc ds) j = true → ∃ p ∈ ds, ∃ mp, acc[p]? = some mp ∧ (j = p ∨ Nat.testBit mp j = true) := by
  intro ds
  induction ds with
  | nil => intro j h; simp [maskOf] at h
  | cons p ds ih =>
    intro j h
    simp only [maskOf] at h
    split at h
    · rename_i mp hmp
      rw [nth_eq] at hmp
      have h' : ((1 <<< p ||| mp) ||| maskOf acc ds).testBit j = true := h
      rw [Nat.testBit_or, Nat.testBit_or, Bool.or_eq_true, Bool.or_eq_true] at h'
      rcases h' with (h' | h') | h'
      · rw [Nat.testBit_shiftLeft] at h'
        simp only [Bool.and_eq_true, decide_eq_true_eq] at h'
        have : j - p = 0 := by
          rcases Nat.eq_zero_or_pos (j - p) with e | e
          · exact e
          · have := h'.2
            rw [Nat.testBit_one_eq_true_iff_self_eq_zero] at this
            exact this
        exact ⟨p, .head _, mp, hmp, .inl (by omega)⟩
      · exact ⟨p, .head _, mp, hmp, .inr h'⟩
      · obtain ⟨q, hq, mq, e1, e2⟩ := ih h'
        exact ⟨q, .tail _ hq, mq, e1, e2⟩
    · obtain ⟨q, hq, mq, e1, e2⟩ := ih h
      exact ⟨q, .tail _ hq, mq, e1, e2⟩

/-- masks are of the operations before -/
def MOk (ops : List Oper) (acc : List Nat) : Prop :=
  ∀ x k, acc[x]? = some k → ∀ j, Nat.testBit k j = true → j < x ∧ ∀ D, Closed ops D → (∀ o, ops[x]? = some o → ∀ p ∈ direct o, D p) → D j

theorem masks_ok (ops : List Oper) : ∀ (l : List Oper) (acc : List Nat), (∀ j : Nat, l[j]? = ops[acc.length + j]?) → MOk ops acc → MOk ops (masks l acc) := by
  intro l
  induction l with
  | nil => intro acc _ h; exact h
  | cons o l ih =>
    intro acc hl h
    simp only [masks]
    refine ih _ (fun j => ?_) ?_
    · have := hl (j + 1)
      simp only [List.getElem?_cons_succ] at this
      rw [this]
      simp only [List.length_append, List.length_cons, List.length_nil]
      congr 1
      omega
    · intro x k hx j hj
      by_cases hlt : x < acc.length
      · rw [List.getElem?_append_left hlt] at hx
        exact h x k hx j hj
      · rw [List.getElem?_append_right (by omega)] at hx
        have hx0 : x = acc.length := by
          have := (List.getElem?_eq_some_iff.1 hx).1
          simp at this
          omega
        subst hx0
        simp at hx
        subst hx
        obtain ⟨p, hp, mp, e1, e2⟩ := maskOf_spec hj
        have hplt : p < acc.length := (List.getElem?_eq_some_iff.1 e1).1
        have ho : ops[acc.length]? = some o := by have := hl 0; simpa using this.symm
        rcases e2 with rfl | e2
        · exact ⟨hplt, fun D _ hD => hD o ho _ hp⟩
        · obtain ⟨a1, a2⟩ := h p mp e1 j e2
          refine ⟨by omega, fun D hc hD => a2 D hc fun o' ho' q hq => hc p o' ho' (hD o ho p hp) q hq⟩

theorem behind_spec {ops : List Oper} {x j : Nat} (hb : behind (masks ops []) x j = true) : j < x ∧ ∀ D, Closed ops D → (∀ o, ops[x]? = some o → ∀ p ∈ direct o, D p) → D j := by
  have hm : MOk ops (masks ops []) := masks_ok ops ops [] (fun j => by simp) (fun x k hx => by simp at hx)
  unfold behind at hb
  split at hb <;> try contradiction
  rename_i k hk
  rw [nth_eq] at hk
  exact hm x k hk j hb

end Go.Clean

namespace Go.Clean

section
variable {B : Base} {L : Laid} {P : Program} {φ : Phi} {h : H} {w : World} {m : Tr AV} {a : Act} {ix : Ixs} {ev : Ev} {N : Nat}

theorem oper_pure {c : COper} (hk : actKind c.act = 0) {h h' : H} {v : AV} (he : evalOper L ev c m h = some (v, h')) (h2 : H) : evalOper L ev c m h2 = some (v, h2) := by
  unfold evalOper at he ⊢
  split at he <;> try contradiction
  split at he
  · cases he; rfl
  · cases hact : c.act with
    | op o => rw [hact] at hk he; exact op_pure hk he h2
    | call f args => rw [hact] at hk; cases hk
theorem oper_keeps {c : COper} (hk : actKind c.act ≠ 2) {h h' : H} {v : AV} (he : evalOper L ev c m h = some (v, h')) : h' = h := by
  unfold evalOper at he
  split at he <;> try contradiction
  split at he
  · cases he; rfl
  · cases hact : c.act with
    | op o => rw [hact] at hk he; exact op_keeps hk he
    | call f args => rw [hact] at hk; exact absurd rfl hk

theorem aev_put_same (d : Nat) (v : AV) (m : Tr AV) : aev (.tmp d) (putA (some d) v m) = v := by
  simp [aev, putA, Tr.get_set_same]
theorem aev_put_ne {dst : Option Nat} {t : Nat} (hne : dst ≠ some t) (v : AV) (m : Tr AV) : aev (.tmp t) (putA dst v m) = aev (.tmp t) m := by
  cases dst with
  | none => rfl
  | some d =>
    have : t ≠ d := fun e => hne (by rw [e])
    simp [aev, putA, Tr.get_set_ne _ _ this]

theorem count_false_set {l : Array Bool} {i : Nat} (hi : l.getD i true = false) : (l.setIfInBounds i true).toList.count false + 1 = l.toList.count false := by
  have hlt : i < l.size := by
    rcases Nat.lt_or_ge i l.size with h | h
    · exact h
    · simp [Array.getElem?_eq_none h] at hi
  have hv : l[i] = false := by simpa [hlt] using hi
  have hmem : 0 < l.toList.count false := List.count_pos_iff.2 (by rw [Array.mem_toList_iff]; rw [← hv]; exact Array.getElem_mem hlt)
  rw [Array.toList_setIfInBounds, List.count_set (by simpa using hlt)]
  simp [hv]
  have : 0 < Array.count false l := by simpa using hmem
  omega

theorem getD_true_of {l : Array Bool} {i : Nat} (h : l.getD i false = true) : l.getD i true = true := by
  rcases Nat.lt_or_ge i l.size with hl | hl
  · simp [hl] at h ⊢; exact h
  · simp [Array.getElem?_eq_none hl] at h
theorem getD_false_of {l : Array Bool} {i : Nat} (h : l.getD i true = false) : l.getD i false = false := by
  rcases Nat.lt_or_ge i l.size with hl | hl
  · simp [hl] at h ⊢; exact h
  · simp [Array.getElem?_eq_none hl] at h

theorem draw_main (hix : IxOk B P ix) (hev : FnOk B L P ev) {ops : Array Oper} {ds : List DOper} (hlen : ds.length = ops.size)
    (hco : ∀ (x : Nat) o d, ops[x]? = some o → ds[x]? = some d → compOper P ix N ops o = some d.co)
    (hop : ∀ (x : Nat) o d, ops[x]? = some o → ds[x]? = some d → opOk ds (masks ops.toList []) ops.size o d x = true)
    {V : Nat → AV} {M : Nat → Tr AV} {HS : Nat → H} (hM0 : M 0 = m)
    (hev' : ∀ (x : Nat) d, ds[x]? = some d → d.kind ≠ 3 → evalOper L ev d.co (M x) (HS x) = some (V x, HS (x + 1)))
    (hfree : ∀ (x : Nat) d, ds[x]? = some d → d.kind = 3 → HS (x + 1) = HS x)
    (hMs : ∀ (x : Nat) d, ds[x]? = some d → M (x + 1) = putA d.co.dst (V x) (M x))
    (hagain : ∀ (x : Nat) d s, ds[x]? = some d → s ∈ d.rs → ∃ h h', s ≤ ops.size ∧ h = HS s ∧ evalOper L ev d.co (M x) h = some (V x, h'))
    {bf : Nat → Nat} {of : Nat → AObj} {fv : Nat → AV} (hbf : ∀ (x : Nat) d, ds[x]? = some d → d.kind = 3 → h.next ≤ bf x)
    (hfr : ∀ (x : Nat) o d, ops[x]? = some o → ds[x]? = some d → d.kind = 3 → ∀ (a : Act) (w : World), ∃ (x' : Obj) (v' : Value) (D : Nat × Nat), (execOp a.eval o).run P w = .ok (.value v') { w with heap := w.heap.push x' } ∧
      ∀ ψ, ψ (bf x) = some (w.heap.size, D) → VR ψ (fv x) v' ∧ OR ψ (of x) D (some x'))
    (hfv : ∀ (x : Nat) d, ds[x]? = some d → d.kind = 3 → V x = freeV d.co.guard (M x) (fv x) ∧ guardOk d.co.guard (M x) = true)
    (hinj : ∀ (x y : Nat) dx dy, ds[x]? = some dx → ds[y]? = some dy → dx.kind = 3 → dy.kind = 3 → bf x = bf y → x = y)
    {Q : Exit → Act → World → Prop} {w0 : World} {df : List Deferred}
    (hQ : ∀ a' w' ψ, TR ψ (M ops.size) a' → HR B L ψ (HS ops.size) w' → Step φ h w0 ψ (HS ops.size) w' → N ≤ a'.tmps.size → a'.defers = df → Q .normal a' w') :
    ∀ (fuel : Nat) (listed : Array Bool) (a : Act) (w : World), listed.toList.count false ≤ fuel →
      listed.size = ops.size → Closed ops.toList (fun x => listed.getD x false = true) →
      (∃ ψ s mD, s ≤ ops.size ∧ (∀ (x : Nat) d, ds[x]? = some d → d.kind = 2 → (listed.getD x false = true ↔ x < s)) ∧ HR B L ψ (HS s) w ∧ Step φ h w0 ψ (HS s) w ∧ TR ψ mD a ∧
        (∀ t, (∀ (j : Nat) d, ds[j]? = some d → listed.getD j false = true → d.co.dst ≠ some t) → aev (.tmp t) mD = aev (.tmp t) m) ∧
        (∀ (j : Nat) d t, ds[j]? = some d → listed.getD j false = true → d.co.dst = some t → aev (.tmp t) mD = V j) ∧ N ≤ a.tmps.size ∧ a.defers = df ∧
        (∀ (x : Nat) d, ds[x]? = some d → d.kind = 3 → listed.getD x false = false → ψ (bf x) = none ∧ (HS s).m.get (bf x) = some (of x) ∧ bf x < (HS s).next)) →
      wpAny P .any ops Q fuel listed a w := by
  -- what the checks say
  have hget : ∀ x, x < ops.size → ∃ o d, ops[x]? = some o ∧ ds[x]? = some d := fun x hx =>
    ⟨ops[x], ds[x]'(by omega), by simp [hx], by simp⟩
  have hds : ∀ {x : Nat} {d : DOper}, ds[x]? = some d → x < ops.size := fun {x d} hd => by
    have := (List.getElem?_eq_some_iff.1 hd).1; omega
  have chk : ∀ (x : Nat) o d, ops[x]? = some o → ds[x]? = some d → (∀ p ∈ direct o, p < x) ∧ kindOk d = true ∧ (∀ (j : Nat) dj, ds[j]? = some dj → looksOk (masks ops.toList []) d x j dj = true ∧ chainOk (masks ops.toList []) d x j dj = true) ∧
      (d.kind = 1 → ∀ s, s ≤ ops.size → okAt ds (masks ops.toList []) ops.size d x s = true) := by
    intro x o d ho hd
    have h1 := hop x o d ho hd
    simp only [opOk, Bool.and_eq_true, List.all_eq_true, List.mem_range] at h1
    obtain ⟨⟨⟨h1, h2⟩, h3⟩, h4⟩ := h1
    refine ⟨fun p hp => Nat.le_of_ble_eq_true (h1 p hp), h2, fun j dj hj => ?_, fun hk s hs => ?_⟩
    · have := h3 j (hds hj)
      rw [nth_eq, hj] at this
      simpa using this
    · rw [hk] at h4
      simp only [Nat.beq_refl, Bool.not_true, Bool.false_or, List.all_eq_true, List.mem_range] at h4
      exact h4 s (by omega)
  have single : ∀ (x j : Nat) d dj t, ds[x]? = some d → ds[j]? = some dj → d.co.dst = some t → dj.co.dst = some t → j = x := by
    intro x j d dj t hx hj h1 h2
    obtain ⟨o, d', ho, hd'⟩ := hget x (hds hx)
    rw [hx] at hd'
    cases hd'
    have := ((chk x o d ho hx).2.2.1 j dj hj).1
    unfold looksOk at this
    rw [h2] at this
    simp only [Bool.or_eq_true, Bool.and_eq_true] at this
    rcases this with e | ⟨_, e⟩
    · exact Nat.eq_of_beq_eq_true e
    · rw [h1] at e; simp at e
  have kinds : ∀ (x : Nat) d, ds[x]? = some d → d.kind = 0 ∧ actKind d.co.act = 0 ∨ d.kind = 1 ∧ actKind d.co.act = 1 ∨ d.kind = 2 ∨ d.kind = 3 ∧ True := by
    intro x d hx
    obtain ⟨o, d', ho, hd'⟩ := hget x (hds hx)
    rw [hx] at hd'
    cases hd'
    have := (chk x o d ho hx).2.1
    unfold kindOk at this
    split at this <;> rename_i hk
    · exact .inl ⟨hk, Nat.eq_of_beq_eq_true this⟩
    · exact .inr (.inl ⟨hk, Nat.eq_of_beq_eq_true this⟩)
    · exact .inr (.inr (.inl hk))
    · exact .inr (.inr (.inr ⟨hk, trivial⟩))
    · cases this
  -- the heaps do not turn where nothing has an effect
  have hsame1 : ∀ (x : Nat) d, ds[x]? = some d → d.kind ≠ 2 → HS (x + 1) = HS x := by
    intro x d hx hk
    rcases kinds x d hx with ⟨e1, e2⟩ | ⟨e1, e2⟩ | e1 | ⟨e1, e2⟩
    · exact oper_keeps (by rw [e2]; decide) (hev' x d hx (by rw [e1]; decide))
    · exact oper_keeps (by rw [e2]; decide) (hev' x d hx (by rw [e1]; decide))
    · exact absurd e1 hk
    · exact hfree x d hx e1
  have hsame : ∀ (s x : Nat), s ≤ x → x ≤ ops.size → (∀ (y : Nat) d, ds[y]? = some d → s ≤ y → y < x → d.kind ≠ 2) → HS x = HS s := by
    intro s x
    induction x with
    | zero => intro h1 _ _; have : s = 0 := by omega
              subst this; rfl
    | succ x ih =>
      intro h1 h2 h3
      by_cases e : s = x + 1
      · rw [e]
      · obtain ⟨o, d, ho, hd⟩ := hget x (by omega)
        rw [hsame1 x d hd (h3 x d hd (by omega) (by omega)), ih (by omega) (by omega) fun y d hy a1 a2 => h3 y d hy a1 (by omega)]
  -- the tmps in the order of the text
  have Mnone : ∀ (t x : Nat), x ≤ ops.size → (∀ (j : Nat) d, ds[j]? = some d → j < x → d.co.dst ≠ some t) → aev (.tmp t) (M x) = aev (.tmp t) m := by
    intro t x
    induction x with
    | zero => intro _ _; rw [hM0]
    | succ x ih =>
      intro hx hno
      obtain ⟨o, d, ho, hd⟩ := hget x (by omega)
      rw [hMs x d hd, aev_put_ne (hno x d hd (by omega))]
      exact ih (by omega) fun j d hj hlt => hno j d hj (by omega)
  have Msome : ∀ (t j : Nat) dj, ds[j]? = some dj → dj.co.dst = some t → ∀ x, x ≤ ops.size → j < x → aev (.tmp t) (M x) = V j := by
    intro t j dj hj hdst x
    induction x with
    | zero => intro _ h; omega
    | succ x ih =>
      intro hx hlt
      obtain ⟨o, d, ho, hd⟩ := hget x (by omega)
      rw [hMs x d hd]
      by_cases e : j = x
      · subst e
        rw [hj] at hd
        cases hd
        rw [hdst]
        exact aev_put_same _ _ _
      · rw [aev_put_ne fun hq => e (single x j d dj t hd hj hq hdst)]
        exact ih (by omega) (by omega)
  -- nothing more is ready: all is done
  have all_done : ∀ (listed : Array Bool), listed.size = ops.size → Region.ready .any ops listed = [] → ∀ x, x < ops.size → listed.getD x false = true := by
    intro listed hsz hr x
    induction x using Nat.strongRecOn with
    | _ x ih =>
      intro hx
      cases hb : listed.getD x false with
      | true => rfl
      | false =>
        obtain ⟨o, d, ho, hd⟩ := hget x hx
        have hmem : x ∈ Region.ready .any ops listed := by
          rw [mem_ready]
          refine ⟨?_, o, ho, fun e he hb' => ?_⟩
          · have hlt : x < listed.size := by omega
            simp [hlt] at hb ⊢
            exact hb
          · have hp : e.on ∈ direct o := by
              unfold direct
              exact List.mem_map.2 ⟨e, List.mem_filter.2 ⟨by simpa using he, hb'⟩, rfl⟩
            have hlt := (chk x o d ho hd).1 e.on hp
            exact ih e.on hlt (by omega)
        rw [hr] at hmem
        cases hmem
  have finish : ∀ (listed : Array Bool) (a : Act) (w : World), listed.size = ops.size → Region.ready .any ops listed = [] →
      (∃ ψ s mD, s ≤ ops.size ∧ (∀ (x : Nat) d, ds[x]? = some d → d.kind = 2 → (listed.getD x false = true ↔ x < s)) ∧ HR B L ψ (HS s) w ∧ Step φ h w0 ψ (HS s) w ∧ TR ψ mD a ∧
        (∀ t, (∀ (j : Nat) d, ds[j]? = some d → listed.getD j false = true → d.co.dst ≠ some t) → aev (.tmp t) mD = aev (.tmp t) m) ∧
        (∀ (j : Nat) d t, ds[j]? = some d → listed.getD j false = true → d.co.dst = some t → aev (.tmp t) mD = V j) ∧ N ≤ a.tmps.size ∧ a.defers = df ∧
        (∀ (x : Nat) d, ds[x]? = some d → d.kind = 3 → listed.getD x false = false → ψ (bf x) = none ∧ (HS s).m.get (bf x) = some (of x) ∧ bf x < (HS s).next)) → Q .normal a w := by
    intro listed a w hsz hr ⟨ψ, s, mD, hs, heff, r, hst, ht, hn0, hv0, hN, hdf, _⟩
    have hall := all_done listed hsz hr
    have hHS : HS ops.size = HS s := hsame s ops.size hs (Nat.le_refl _) fun y d hy h1 _ hk => by
      have := (heff y d hy hk).1 (hall y (hds hy))
      omega
    refine hQ a w ψ (fun t => ?_) (by rw [hHS]; exact r) (by rw [hHS]; exact hst) hN hdf
    have e : aev (.tmp t) (M ops.size) = aev (.tmp t) mD := by
      by_cases hw : ∃ (j : Nat) (d : DOper), ds[j]? = some d ∧ d.co.dst = some t
      · obtain ⟨j, d, hj, hd⟩ := hw
        rw [Msome t j d hj hd ops.size (Nat.le_refl _) (hds hj), hv0 j d t hj (hall j (hds hj)) hd]
      · rw [Mnone t ops.size (Nat.le_refl _) fun j d hj _ hd => hw ⟨j, d, hj, hd⟩, hn0 t fun j d hj _ hd => hw ⟨j, d, hj, hd⟩]
    rw [e]
    exact ht t
  intro fuel
  induction fuel with
  | zero =>
    intro listed a w hcnt hsz hcl hinv
    have hr : Region.ready .any ops listed = [] := by
      cases hq : Region.ready .any ops listed with
      | nil => rfl
      | cons i is =>
        have := (mem_ready.1 (show i ∈ Region.ready .any ops listed by rw [hq]; exact .head _)).1
        have := count_false_set this
        omega
    exact ⟨hr, finish listed a w hsz hr hinv⟩
  | succ fuel ih =>
    intro listed a w hcnt hsz hcl hinv
    refine ⟨fun hr => finish listed a w hsz hr hinv, fun i hi => ?_⟩
    obtain ⟨hi0, o, ho, hall⟩ := mem_ready.1 hi
    obtain ⟨ψ, s, mD, hs, heff, r, hst, ht, hn0, hv0, hN, hdf, hfr0⟩ := hinv
    have hin : i < ops.size := (Array.getElem?_eq_some_iff.1 ho).1
    obtain ⟨o', d, ho', hd⟩ := hget i hin
    rw [ho] at ho'
    cases ho'
    have hif : listed.getD i false = false := getD_false_of hi0
    have hpre : ∀ o', ops.toList[i]? = some o' → ∀ p ∈ direct o', listed.getD p false = true := by
      intro o' ho' p hp
      rw [Array.getElem?_toList, ho] at ho'
      cases ho'
      obtain ⟨e, he, rfl⟩ := List.mem_map.1 hp
      obtain ⟨he1, he2⟩ := List.mem_filter.1 he
      exact hall e (by simpa using he1) he2
    have hbehind : ∀ j, behind (masks ops.toList []) i j = true → listed.getD j false = true := fun j hj => (behind_spec hj).2 _ hcl hpre
    have hahead : ∀ j, behind (masks ops.toList []) j i = true → listed.getD j false = false := by
      intro j hj
      cases hb : listed.getD j false with
      | false => rfl
      | true =>
        have := (behind_spec hj).2 _ hcl fun o' ho' p hp => hcl j o' ho' hb p hp
        rw [hif] at this
        cases this
    obtain ⟨c1, c2, c3, c4⟩ := chk i o d ho hd
    have hcomp := hco i o d ho hd
    have hdst : d.co.dst = o.dst ∧ dstOk N o.dst = true ∧ guardOf ops o.guard = some d.co.guard := by
      unfold compOper at hcomp
      split at hcomp <;> try contradiction
      rename_i g act h1 h2 h3
      have e := Option.some.inj hcomp
      rw [← e]
      exact ⟨rfl, h1, h2⟩
    -- what is looked at
    have hlook : ∀ t ∈ coLooks d.co, aev (.tmp t) mD = aev (.tmp t) (M i) := by
      intro t htl
      by_cases hw : ∃ (j : Nat) (dj : DOper), ds[j]? = some dj ∧ dj.co.dst = some t
      · obtain ⟨j, dj, hj, hjd⟩ := hw
        have hother : ∀ (k : Nat) dk, ds[k]? = some dk → dk.co.dst = some t → k = j := fun k dk hk hkd => single j k dj dk t hj hk hjd hkd
        have hno : listed.getD j false = false → ¬ j < i → aev (.tmp t) mD = aev (.tmp t) (M i) := by
          intro hjl hji
          rw [hn0 t fun k dk hk hkl hkd => by
            have := hother k dk hk hkd
            subst this
            rw [hjl] at hkl
            cases hkl]
          rw [Mnone t i (by omega) fun k dk hk hlt hkd => by
            have := hother k dk hk hkd
            omega]
        have hl := (c3 j dj hj).1
        unfold looksOk at hl
        rw [hjd] at hl
        simp only [Bool.or_eq_true, Bool.and_eq_true, Bool.not_eq_true'] at hl
        rcases hl with e | ⟨(e | e) | e, _⟩
        · have e := Nat.eq_of_beq_eq_true e
          subst e
          exact hno hif (by omega)
        · have : (coLooks d.co).contains t = true := by simpa using htl
          rw [this] at e
          cases e
        · rw [hv0 j dj t hj (hbehind j e) hjd, Msome t j dj hj hjd i (by omega) (behind_spec e).1]
        · exact hno (hahead j e) (by have := (behind_spec e).1; omega)
      · rw [hn0 t fun k dk hk _ hkd => hw ⟨k, dk, hk, hkd⟩, Mnone t i (by omega) fun k dk hk _ hkd => hw ⟨k, dk, hk, hkd⟩]
    -- what is left behind
    have next : ∀ (v' : Value) (w' : World) (χ : Phi) (s' : Nat), s' ≤ ops.size → VR χ (V i) v' → HR B L χ (HS s') w' → Step φ h w0 χ (HS s') w' → Le ψ χ →
        (∀ (x : Nat) dx, ds[x]? = some dx → dx.kind = 2 → ((listed.setIfInBounds i true).getD x false = true ↔ x < s')) →
        (∀ (x : Nat) dx, ds[x]? = some dx → dx.kind = 3 → (listed.setIfInBounds i true).getD x false = false → χ (bf x) = none ∧ (HS s').m.get (bf x) = some (of x) ∧ bf x < (HS s').next) →
        wpAny P .any ops Q fuel (listed.setIfInBounds i true) (a.put o.dst v') w' := by
      intro v' w' χ s' hs' hv hr' hst' hle heff' hfr'
      have hother : ∀ {j : Nat}, j ≠ i → (listed.setIfInBounds i true).getD j false = listed.getD j false := fun {j} hne => getD_set_ne false (Ne.symm hne)
      have hself : (listed.setIfInBounds i true).getD i false = true := by
        have : i < listed.size := by omega
        simp [this]
      refine ih _ _ _ (by have := count_false_set hi0; omega) (by simpa using hsz) ?_ ⟨χ, s', putA d.co.dst (V i) mD, hs', heff', hr', hst', ?_, ?_, ?_, by rw [put_size]; exact hN, by rw [put_defers]; exact hdf, hfr'⟩
      · intro x ox hx hxl p hp
        by_cases e : x = i
        · subst e
          exact getD_set_true (hpre ox hx p hp)
        · have : listed.getD x false = true := by rw [← hother e]; exact hxl
          exact getD_set_true (hcl x ox hx this p hp)
      · rw [hdst.1]
        exact (ht.mono hle).put hv hdst.2.1 hN
      · intro t hno
        rw [aev_put_ne (hno i d hd hself)]
        refine hn0 t fun j dj hj hjl hjd => ?_
        by_cases e : j = i
        · subst e; rw [hif] at hjl; cases hjl
        · exact hno j dj hj (by rw [hother e]; exact hjl) hjd
      · intro j dj t hj hjl hjd
        by_cases e : j = i
        · subst e
          rw [hd] at hj
          cases hj
          rw [hjd]
          exact aev_put_same _ _ _
        · rw [aev_put_ne fun hq => e (single i j d dj t hd hj hq hjd)]
          exact hv0 j dj t hj (by rw [← hother e]; exact hjl) hjd
    have hset : ∀ (x : Nat), x ≠ i → (listed.setIfInBounds i true).getD x false = listed.getD x false := fun x hne => getD_set_ne false (Ne.symm hne)
    have hset_i : (listed.setIfInBounds i true).getD i false = true := by
      have : i < listed.size := by omega
      simp [this]
    -- one that leaves the heap where it stands
    have still : d.kind ≠ 2 → d.kind ≠ 3 → evalOper L ev d.co mD (HS s) = some (V i, HS s) → wpOp P ops Q i (wpAny P .any ops Q fuel (listed.setIfInBounds i true)) a w := by
      intro hk2 hk3 he
      refine oper_ok hix hev r ht ho hcomp he fun v' w' χ hv hr' hst' => next v' w' χ s hs hv hr' (hst.trans hst') hst'.le ?_ ?_
      · intro x dx hx hxk
        by_cases e : x = i
        · subst e; rw [hd] at hx; cases hx; exact absurd hxk hk2
        · rw [hset x e]; exact heff x dx hx hxk
      · intro x dx hx hxk hxl
        by_cases e : x = i
        · subst e; rw [hd] at hx; cases hx; exact absurd hxk hk3
        · rw [hset x e] at hxl
          obtain ⟨a1, a2, a3⟩ := hfr0 x dx hx hxk hxl
          obtain ⟨b1, b2⟩ := hst'.keep (bf x) a3 a1
          exact ⟨b1, b2.trans a2, a3⟩
    rcases kinds i d hd with ⟨e1, e2⟩ | ⟨e1, e2⟩ | e1 | ⟨e1, e2⟩
    · -- pure
      refine still (by rw [e1]; decide) (by rw [e1]; decide) ?_
      rw [oper_congr hlook]
      exact oper_pure e2 (hev' i d hd (by rw [e1]; decide)) (HS s)
    · -- it reads the heap
      refine still (by rw [e1]; decide) (by rw [e1]; decide) ?_
      rw [oper_congr hlook]
      have hkind : ∀ (y : Nat) dy, ds[y]? = some dy → kindAt ds y = dy.kind := fun y dy hy => by simp [kindAt, nth_eq, hy]
      have key : ∀ t, t ≤ ops.size → never ds (masks ops.toList []) ops.size i t = true ∨ evalOper L ev d.co (M i) (HS t) = some (V i, HS t) := by
        intro t
        induction t with
        | zero =>
          intro htn
          have h1 := c4 e1 0 htn
          unfold okAt at h1
          simp only [Bool.or_eq_true, Bool.or_false] at h1
          rcases h1 with (h1 | h1) | h1
          · have h1 := Nat.eq_of_beq_eq_true h1
            have he := hev' i d hd (by rw [e1]; decide)
            rw [← h1] at he
            have := oper_keeps (by rw [e2]; decide) he
            rw [this] at he
            rw [← h1]
            exact .inr he
          · obtain ⟨hh, h', hle, hhe, he⟩ := hagain i d 0 hd (by simpa using h1)
            subst hhe
            have := oper_keeps (by rw [e2]; decide) he
            rw [this] at he
            exact .inr he
          · exact .inl h1
        | succ t iht =>
          intro htn
          have h1 := c4 e1 (t + 1) htn
          unfold okAt at h1
          simp only [Bool.or_eq_true] at h1
          rcases h1 with ((h1 | h1) | h1) | h1
          · have h1 := Nat.eq_of_beq_eq_true h1
            have he := hev' i d hd (by rw [e1]; decide)
            rw [← h1] at he ⊢
            have := oper_keeps (by rw [e2]; decide) he
            rw [this] at he
            exact .inr he
          · obtain ⟨hh, h', hle, hhe, he⟩ := hagain i d (t + 1) hd (by simpa using h1)
            subst hhe
            have := oper_keeps (by rw [e2]; decide) he
            rw [this] at he
            exact .inr he
          · exact .inl h1
          · obtain ⟨ot, dt, hot, hdt⟩ := hget t (by omega)
            have hk2 : dt.kind ≠ 2 := by
              intro hk
              rw [hkind t dt hdt, hk] at h1
              cases h1
            rcases iht (by omega) with h2 | h2
            · refine .inl ?_
              unfold never at h2 ⊢
              rw [List.any_eq_true] at h2 ⊢
              obtain ⟨y, hy, h3⟩ := h2
              refine ⟨y, hy, ?_⟩
              simp only [Bool.and_eq_true, Bool.or_eq_true] at h3 ⊢
              obtain ⟨h3, h4⟩ := h3
              refine ⟨h3, ?_⟩
              have hyt : y ≠ t := by
                intro e
                subst e
                rw [hkind y dt hdt] at h3
                exact hk2 (Nat.eq_of_beq_eq_true h3)
              rcases h4 with ⟨h4, h5⟩ | ⟨h4, h5⟩
              · have h5 := Nat.le_of_ble_eq_true h5
                exact .inl ⟨h4, Nat.ble_eq_true_of_le (by omega)⟩
              · have h5 : y < t := Nat.le_of_ble_eq_true h5
                exact .inr ⟨h4, Nat.ble_eq_true_of_le (by omega : y + 1 ≤ t + 1)⟩
            · refine .inr ?_
              rw [hsame1 t dt hdt hk2]
              exact h2
      rcases key s hs with h1 | h1
      · exfalso
        unfold never at h1
        rw [List.any_eq_true] at h1
        obtain ⟨y, hy, h3⟩ := h1
        obtain ⟨oy, dy, hoy, hdy⟩ := hget y (by simpa using hy)
        simp only [Bool.and_eq_true, Bool.or_eq_true] at h3
        obtain ⟨h3, h4⟩ := h3
        rw [hkind y dy hdy] at h3
        have hky := Nat.eq_of_beq_eq_true h3
        rcases h4 with ⟨h4, h5⟩ | ⟨h4, h5⟩
        · have := (heff y dy hdy hky).1 (hbehind y h4)
          have h5 := Nat.le_of_ble_eq_true h5
          omega
        · have h5 : y < s := Nat.le_of_ble_eq_true h5
          have := (heff y dy hdy hky).2 h5
          rw [hahead y h4] at this
          cases this
      · exact h1
    · -- it has an effect
      have hsi : s ≤ i := by
        rcases Nat.lt_or_ge i s with hlt | hge
        · have := (heff i d hd e1).2 hlt
          rw [hif] at this
          cases this
        · exact hge
      have hbef : ∀ (y : Nat) dy, ds[y]? = some dy → dy.kind = 2 → y < i → listed.getD y false = true := by
        intro y dy hy hyk hlt
        have h1 := (c3 y dy hy).2
        unfold chainOk at h1
        rw [e1, hyk] at h1
        have h2 : Nat.blt y i = true := Nat.ble_eq_true_of_le hlt
        rw [h2] at h1
        simp at h1
        exact hbehind y h1
      have hHS : HS i = HS s := hsame s i hsi (by omega) fun y dy hy h1 h2 hk => by
        have := (heff y dy hy hk).1 (hbef y dy hy hk h2)
        omega
      have he := hev' i d hd (by rw [e1]; decide)
      rw [hHS, ← oper_congr hlook] at he
      refine oper_ok hix hev r ht ho hcomp he fun v' w' χ hv hr' hst' => next v' w' χ (i + 1) (by omega) hv hr' (hst.trans hst') hst'.le ?_ ?_
      · intro x dx hx hxk
        by_cases e : x = i
        · subst e
          exact ⟨fun _ => by omega, fun _ => hset_i⟩
        · rw [hset x e]
          constructor
          · intro hxl
            have := (heff x dx hx hxk).1 hxl
            omega
          · intro hlt
            exact hbef x dx hx hxk (by omega)
      · intro x dx hx hxk hxl
        by_cases e : x = i
        · subst e; rw [hd] at hx; cases hx; rw [e1] at hxk; cases hxk
        · rw [hset x e] at hxl
          obtain ⟨a1, a2, a3⟩ := hfr0 x dx hx hxk hxl
          obtain ⟨b1, b2⟩ := hst'.keep (bf x) a3 a1
          exact ⟨b1, b2.trans a2, Nat.lt_of_lt_of_le a3 hst'.next⟩
    · -- it makes its block
      obtain ⟨x', v', D, hrun, hvo⟩ := hfr i o d ho hd e1 a w
      obtain ⟨a1, a2, a3⟩ := hfr0 i d hd e1 hif
      obtain ⟨hv, hor⟩ := hvo (put ψ (bf i) w.heap.size D) (put_same _ _ _ _)
      have hr' := r.realize a1 a2 hor
      have hst' := hst.realize (x := x') (D := D) a1 (hbf i d hd e1)
      have hguard : wantedA d.co.guard mD = wantedA d.co.guard (M i) := by
        unfold wantedA
        cases hg : d.co.guard with
        | none => rfl
        | some p =>
          obtain ⟨t, b⟩ := p
          simp only
          rw [hlook t (by unfold coLooks; rw [hg]; exact List.mem_append_left _ (.head _))]
      have hguard2 : guardOk d.co.guard mD = guardOk d.co.guard (M i) := by
        unfold guardOk
        cases hg : d.co.guard with
        | none => rfl
        | some p =>
          obtain ⟨t, b⟩ := p
          simp only
          rw [hlook t (by unfold coLooks; rw [hg]; exact List.mem_append_left _ (.head _))]
      obtain ⟨hVi, hgk⟩ := hfv i d hd e1
      have hwant := wanted_ok ht hdst.2.2 (hguard2.trans hgk)
      rw [hguard] at hwant
      cases hq : wantedA d.co.guard (M i) with
      | false =>
        rw [hq] at hwant
        have hV : V i = .undef := by rw [hVi]; unfold freeV; rw [hq]
        unfold wpOp
        simp only [ho, hwant, Bool.false_eq_true, if_false]
        refine next undef w ψ s hs (by rw [hV]; exact .undef ψ) r hst (.refl _) ?_ ?_
        · intro x dx hx hxk
          by_cases e : x = i
          · subst e; rw [hd] at hx; cases hx; rw [e1] at hxk; cases hxk
          · rw [hset x e]; exact heff x dx hx hxk
        · intro x dx hx hxk hxl
          by_cases e : x = i
          · subst e; rw [hset_i] at hxl; cases hxl
          · rw [hset x e] at hxl
            exact hfr0 x dx hx hxk hxl
      | true =>
      rw [hq] at hwant
      have hV : V i = fv i := by rw [hVi]; unfold freeV; rw [hq]
      rw [← hV] at hv
      have hw : Region.wanted o (yielded ops a.tmps) = true := hwant
      unfold wpOp
      simp only [ho, hw, if_true]
      refine .inl ?_
      unfold Oper.wp
      rw [hrun]
      refine next v' _ _ s hs hv hr' hst' (.put _ _ a1) ?_ ?_
      · intro x dx hx hxk
        by_cases e : x = i
        · subst e; rw [hd] at hx; cases hx; rw [e1] at hxk; cases hxk
        · rw [hset x e]; exact heff x dx hx hxk
      · intro x dx hx hxk hxl
        by_cases e : x = i
        · subst e; rw [hset_i] at hxl; cases hxl
        · rw [hset x e] at hxl
          obtain ⟨b1, b2, b3⟩ := hfr0 x dx hx hxk hxl
          have hne : bf x ≠ bf i := fun hq => e (hinj x i dx d hx hd hxk e1 hq)
          exact ⟨by rw [put_ne _ _ _ hne]; exact b1, b2, b3⟩

end
end Go.Clean

namespace Go.Clean

def freeSrc : Op → Bool
  | .alloc _ => true
  | .makeSlice _ l c => isConst l && isConst c
  | _ => false

section
variable {B : Base} {L : Laid} {P : Program} {φ : Phi} {h : H} {w : World} {m : Tr AV} {a : Act} {ix : Ixs} {ev : Ev} {N : Nat}

theorem act_of {ops : Array Oper} {o : Oper} {co : COper} (hc : compOper P ix N ops o = some co) : compAct P ix o.op = some co.act := by
  unfold compOper at hc
  split at hc <;> try contradiction
  rename_i g act h1 h2 h3
  have e := Option.some.inj hc
  rw [← e]
  exact h3

theorem const_ao {x : Operand} {o : AO} (hx : isConst x = true) (ho : aoOf x = some o) (φ : Phi) (m : Tr AV) (a : Act) : VR φ (aev o m) (a.eval x) := by
  cases x with
  | const v =>
    obtain ⟨b, hb, rfl⟩ := Option.map_eq_some_iff.1 ho
    exact avOf_ok _ _ _ hb φ
  | _ => cases hx

theorem free_ok {ops : Array Oper} {o : Oper} {co : COper} (hc : compOper P ix N ops o = some co) (hf : freeSrc o.op = true) {c : COp} (hact : co.act = .op c) {hq h1 : H} {v : AV} (he : evalOp L c .leaf hq = some (v, h1)) :
    ∃ ob, h1 = newB hq ob ∧ ∀ (a : Act) (w : World), ∃ (x' : Obj) (v' : Value) (D : Nat × Nat), (execOp a.eval o).run P w = .ok (.value v') { w with heap := w.heap.push x' } ∧
      ∀ ψ, ψ hq.next = some (w.heap.size, D) → VR ψ v v' ∧ OR ψ ob D (some x') := by
  have hca := act_of hc
  rw [hact] at hca
  unfold compAct at hca
  cases hop : o.op <;> rw [hop] at hf hca <;> try (cases hf; done)
  · rename_i t
    cases hz : zeroOf P t with
    | none => rw [show compOp P ix (.alloc t) = none by simp [compOp, hz]] at hca; cases hca; cases he
    | some zl =>
      rw [show compOp P ix (.alloc t) = some (.alloc t zl) by simp [compOp, hz]] at hca
      cases hca
      obtain ⟨i, z, hi, hzv, hzr, hsz⟩ := zeroOf_ok hz
      cases he
      refine ⟨_, rfl, fun a w => ⟨.cells z.cells t, .pointer (some ⟨w.heap.size, 0, none⟩), (0, z.cells.size), ?_, fun ψ hψ => ⟨.ptr (d := (0, _)) hψ, hzr.1, z.cells, (0, 0), rfl, ?_, ⟨rfl, fun _ => ⟨rfl, hzr.length⟩⟩, ?_, ⟨fun _ => ⟨fun i _ hi => no_fz i hi, fun _ => Nat.le_refl _⟩, vrs_cells (hzr.2 ψ) hzr.1⟩⟩⟩⟩
      · unfold execOp
        simp [hop, Instr.alloc, zeroValue, typeInfo, hi, hzv, newVar, newRow]
      · show 0 + zl.length ≤ z.cells.size
        rw [hzr.length]; omega
      · show VRs ψ zl ((z.cells.toList.drop 0).take zl.length)
        rw [← hzr.length, List.drop_zero, ← Array.length_toList, List.take_length]
        exact hzr.2 ψ
  · rename_i t l cc
    simp only [freeSrc, Bool.and_eq_true] at hf
    cases hcomp : compOp P ix (.makeSlice t l cc) with
    | none => rw [hcomp] at hca; cases hca; cases he
    | some c0 =>
      rw [hcomp] at hca
      cases hca
      simp only [compOp] at hcomp
      split at hcomp <;> try contradiction
      rename_i e lo co' g1 g2 g3
      split at hcomp <;> try contradiction
      rename_i z hz
      cases hcomp
      obtain ⟨i, zv, hi, hzv, hzr, hsz⟩ := zeroOf_ok hz
      simp only [evalOp] at he
      split at he <;> try contradiction
      rename_i n k hn hk
      split at he <;> try contradiction
      rename_i b1 b2 b3
      cases he
      have b1 := Nat.le_of_ble_eq_true b1
      have b2 := Nat.le_of_ble_eq_true b2
      have b3 := Nat.le_of_ble_eq_true b3
      refine ⟨_, rfl, fun a w => ?_⟩
      have hl := const_ao (φ := ⟨fun _ => none, fun _ => .bool true, fun _ => true⟩) (m := .leaf) hf.1 g2 (a := a)
      have hcv := const_ao (φ := ⟨fun _ => none, fun _ => .bool true, fun _ => true⟩) (m := .leaf) hf.2 g3 (a := a)
      obtain ⟨k1, q1⟩ := natOf_eq hn
      obtain ⟨k2, q2⟩ := natOf_eq hk
      rw [q1] at hl
      rw [q2] at hcv
      have el : a.eval l = .int k1 (n : Int) := by
        revert hl; generalize a.eval l = u; intro hl; cases hl; rfl
      have ec : a.eval cc = .int k2 (k : Int) := by
        revert hcv; generalize a.eval cc = u; intro hl; cases hl; rfl
      have hzl := hzr.length
      have hb : k * i.bytes ≤ 1000000000 := by simpa [Program.bytesOf, hi] using b2
      have hby : (i.bytes : Int) * (k : Int) ≤ 281474976710656 := by
        have h1 : ((k * i.bytes : Nat) : Int) ≤ ((1000000000 : Nat) : Int) := Int.ofNat_le.2 hb
        rw [Int.natCast_mul, Int.mul_comm] at h1
        omega
      have hrun := run_make (P := P) w t e i zv (sliceOf_ok g1) hi hzv k1 k2 n k (by omega) (Int.ofNat_le.2 b1) hby (by omega)
      simp only [Int.toNat_natCast] at hrun
      have hmade : (madeCells zv.cells (k * i.size)).toList = copies zv.cells.toList k := by rw [hsz, ← hzl]; exact made_copies _ _
      have hmsz : (madeCells zv.cells (k * i.size)).size = (copies z k).length := by
        rw [← Array.length_toList, hmade, copies_length, copies_length, Array.length_toList, hzl]
      refine ⟨.cells (madeCells zv.cells (k * i.size)) e, .slice (some ⟨w.heap.size, 0, none⟩) n k, (0, (madeCells zv.cells (k * i.size)).size), ?_, fun ψ hψ => ⟨.slice (d := (0, _)) hψ b1 (Nat.le_refl _) (fun _ => rfl) (fun e => absurd rfl e), cellsOk_copies hzr.1 k, _, (0, 0), rfl, ?_, ⟨rfl, fun _ => ⟨rfl, hmsz⟩⟩, ?_, ⟨fun _ => ⟨fun i _ hi => no_fz i hi, fun _ => Nat.le_refl _⟩, by rw [hmade]; exact vrs_cells (copies_vrs (hzr.2 ψ) k) (cellsOk_copies hzr.1 k)⟩⟩⟩
      · unfold execOp
        simp only [hop, el, ec, Sem.run_bind, hrun, Result.andThen_ok, Sem.run_pure]
        rfl
      · show 0 + (copies z k).length ≤ _
        rw [hmsz]; omega
      · show VRs ψ (copies z k) (((madeCells zv.cells (k * i.size)).toList.drop 0).take (copies z k).length)
        rw [← hmsz, List.drop_zero, ← Array.length_toList, List.take_length, hmade]
        exact copies_vrs (hzr.2 ψ) k

theorem preD_spec : ∀ {ds : List DOper} {h : H} {ps : List (Option AV)} {h0 : H}, preD L ds h = some (ps, h0) →
    (∀ (x : Nat) d, ds[x]? = some d → d.kind = 3 → ∀ c hq v h1, d.co.act = .op c → evalOp L c .leaf hq = some (v, h1) → ∃ ob, h1 = newB hq ob) → HR B L φ h w →
    HR B L φ h0 w ∧ Step φ h w φ h0 w ∧ ps.length = ds.length ∧ ∃ (bf : Nat → Nat) (of : Nat → AObj) (fv : Nat → AV),
      (∀ (x : Nat) d, ds[x]? = some d → d.kind ≠ 3 → ps[x]? = some none) ∧
      (∀ (x : Nat) d, ds[x]? = some d → d.kind = 3 → h.next ≤ bf x ∧ bf x < h0.next ∧ φ (bf x) = none ∧ h0.m.get (bf x) = some (of x) ∧ ∃ c hq, d.co.act = .op c ∧ hq.next = bf x ∧ evalOp L c .leaf hq = some (fv x, newB hq (of x)) ∧ ps[x]? = some (some (fv x))) ∧
      (∀ (x y : Nat) dx dy, ds[x]? = some dx → ds[y]? = some dy → dx.kind = 3 → dy.kind = 3 → x < y → bf x < bf y) := by
  intro ds
  induction ds with
  | nil =>
    intro h ps h0 he _ r
    cases he
    refine ⟨r, .refl _ _ _, rfl, fun _ => 0, fun _ => .dead, fun _ => .undef, ?_, ?_, ?_⟩
    · intro x d hx; simp at hx
    · intro x d hx; simp at hx
    · intro x y dx dy hx; simp at hx
  | cons d ds ih =>
    intro h ps h0 he hfr r
    simp only [preD] at he
    have hfr' : ∀ (x : Nat) d, ds[x]? = some d → d.kind = 3 → ∀ c hq v h1, d.co.act = .op c → evalOp L c .leaf hq = some (v, h1) → ∃ ob, h1 = newB hq ob := fun x d' hx => hfr (x + 1) d' (by simpa using hx)
    split at he
    · rename_i hk
      have hk := Nat.eq_of_beq_eq_true hk
      split at he <;> try contradiction
      rename_i c hact
      split at he <;> try contradiction
      rename_i v h1 hev
      split at he <;> try contradiction
      rename_i vs h2 hrest
      cases he
      obtain ⟨ob, rfl⟩ := hfr 0 d rfl hk c h v h1 hact hev
      obtain ⟨r1, s1, hn⟩ := r.reserve ob
      obtain ⟨r2, s2, hl, bf, of, fv, p1, p2, p3⟩ := ih hrest hfr' r1
      have hlt : h.next < (newB h ob).next := Nat.lt_succ_self _
      obtain ⟨_, k2⟩ := s2.keep h.next hlt hn
      refine ⟨r2, s1.trans s2, by simp [hl], fun x => match x with | 0 => h.next | x + 1 => bf x, fun x => match x with | 0 => ob | x + 1 => of x, fun x => match x with | 0 => v | x + 1 => fv x, ?_, ?_, ?_⟩
      · intro x d' hx hk'
        cases x with
        | zero => cases hx; exact absurd hk hk'
        | succ x => simpa using p1 x d' (by simpa using hx) hk'
      · intro x d' hx hk'
        cases x with
        | zero =>
          cases hx
          refine ⟨Nat.le_refl _, Nat.lt_of_lt_of_le hlt s2.next, hn, ?_, c, h, hact, rfl, hev, rfl⟩
          show h0.m.get h.next = some ob
          rw [k2]
          simp only [newB]
          rw [Tr.get_set_same]
        | succ x =>
          obtain ⟨q1, q2, q3, q4, q5⟩ := p2 x d' (by simpa using hx) hk'
          refine ⟨?_, q2, q3, q4, by simpa using q5⟩
          show h.next ≤ bf x
          have : h.next + 1 ≤ bf x := q1
          omega
      · intro x y dx dy hx hy hkx hky hlt'
        cases y with
        | zero => omega
        | succ y =>
          cases x with
          | zero =>
            show h.next < bf y
            have : h.next + 1 ≤ bf y := (p2 y dy (by simpa using hy) hky).1
            omega
          | succ x => exact p3 x y dx dy (by simpa using hx) (by simpa using hy) hkx hky (by omega)
    · rename_i hk
      have hk : d.kind ≠ 3 := fun e => by rw [e] at hk; cases hk
      split at he <;> try contradiction
      rename_i vs h2 hrest
      cases he
      obtain ⟨r2, s2, hl, bf, of, fv, p1, p2, p3⟩ := ih hrest hfr' r
      refine ⟨r2, s2, by simp [hl], fun x => match x with | 0 => 0 | x + 1 => bf x, fun x => match x with | 0 => .dead | x + 1 => of x, fun x => match x with | 0 => .undef | x + 1 => fv x, ?_, ?_, ?_⟩
      · intro x d' hx hk'
        cases x with
        | zero => rfl
        | succ x => simpa using p1 x d' (by simpa using hx) hk'
      · intro x d' hx hk'
        cases x with
        | zero => cases hx; exact absurd hk' hk
        | succ x => simpa using p2 x d' (by simpa using hx) hk'
      · intro x y dx dy hx hy hkx hky hlt'
        cases x with
        | zero => cases hx; exact absurd hkx hk
        | succ x =>
          cases y with
          | zero => omega
          | succ y => exact p3 x y dx dy (by simpa using hx) (by simpa using hy) hkx hky (by omega)

/-- the compiled operations of a region, their sources -/
def drawSrc : List Oper → List DOper → Bool
  | [], [] => true
  | o :: l, d :: ds => match Nat.beq d.kind 3 with
    | true => match freeSrc o.op with
      | true => drawSrc l ds
      | false => false
    | false => drawSrc l ds
  | _, _ => false
theorem drawSrc_ok : ∀ {l : List Oper} {ds : List DOper}, drawSrc l ds = true → ∀ (x : Nat) o d, l[x]? = some o → ds[x]? = some d → d.kind = 3 → freeSrc o.op = true := by
  intro l
  induction l with
  | nil => intro ds _ x o d hx; simp at hx
  | cons o l ih =>
    intro ds h x o' d' hx hd hk
    cases ds with
    | nil => cases h
    | cons d ds =>
      simp only [drawSrc] at h
      split at h
      · split at h
        · rename_i hf
          cases x with
          | zero => cases hx; exact hf
          | succ x => exact ih h x o' d' (by simpa using hx) (by simpa using hd) hk
        · cases h
      · rename_i hk'
        cases x with
        | zero => cases hd; rw [hk] at hk'; cases hk'
        | succ x => exact ih h x o' d' (by simpa using hx) (by simpa using hd) hk

theorem compOpers_get {ops : Array Oper} : ∀ {l : List Oper} {cs : List COper}, compOpers P ix N ops l = some cs → ∀ (x : Nat) o c, l[x]? = some o → cs[x]? = some c → compOper P ix N ops o = some c := by
  intro l
  induction l with
  | nil => intro cs _ x o c hx; simp at hx
  | cons o l ih =>
    intro cs h x o' c' hx hc
    simp only [compOpers] at h
    split at h <;> try contradiction
    rename_i c cr h1 h2
    cases h
    cases x with
    | zero => cases hx; cases hc; exact h1
    | succ x => exact ih h2 x o' c' (by simpa using hx) (by simpa using hc)

theorem repl_false (n x : Nat) : (Array.replicate n false).getD x false = false := by
  rw [Array.getD_eq_getD_getElem?, Array.getElem?_replicate]
  split <;> rfl

theorem draw_ok (hm : P.follows .mixedOrders = true) (hix : IxOk B P ix) (hev : FnOk B L P ev) {id : Nat} {ops : Array Oper} {ds : List DOper} (hc : compOpers P ix N ops ops.toList = some (ds.map (·.co)))
    (hchk : drawOk ops.toList ds = true) (hsrc : drawSrc ops.toList ds = true)
    {Q : Exit → Act → World → Prop} (r : HR B L φ h w) (ht : TR φ m a) (hN : N ≤ a.tmps.size) {m' : Tr AV} {h' : H} (he : evalDraw L ev ds m h = some (m', h'))
    (hQ : ∀ a' w' ψ, TR ψ m' a' → HR B L ψ h' w' → Step φ h w ψ h' w' → N ≤ a'.tmps.size → a'.defers = a.defers → Q .normal a' w') : (Code.region id ops true).wp P Q a w := by
  simp only [drawOk, Bool.and_eq_true, List.all_eq_true, List.mem_range, Array.length_toList] at hchk
  obtain ⟨hlen, hall⟩ := hchk
  have hlen := Nat.eq_of_beq_eq_true hlen
  have hco : ∀ (x : Nat) o d, ops[x]? = some o → ds[x]? = some d → compOper P ix N ops o = some d.co := fun x o d ho hd =>
    compOpers_get hc x o d.co (by rw [Array.getElem?_toList]; exact ho) (by rw [List.getElem?_map, hd]; rfl)
  have hop : ∀ (x : Nat) o d, ops[x]? = some o → ds[x]? = some d → opOk ds (masks ops.toList []) ops.size o d x = true := by
    intro x o d ho hd
    have := hall x (Array.getElem?_eq_some_iff.1 ho).1
    rw [nth_eq, nth_eq, hd, Array.getElem?_toList, ho] at this
    exact this
  have hfs : ∀ (x : Nat) o d, ops[x]? = some o → ds[x]? = some d → d.kind = 3 → freeSrc o.op = true := fun x o d ho hd hk => drawSrc_ok hsrc x o d (by rw [Array.getElem?_toList]; exact ho) hd hk
  have hget : ∀ (x : Nat) d, ds[x]? = some d → ∃ o, ops[x]? = some o := fun x d hd => by
    have h1 : x < ds.length := (List.getElem?_eq_some_iff.1 hd).1
    exact ⟨ops[x]'(by omega), by simp [show x < ops.size by omega]⟩
  unfold evalDraw at he
  split at he <;> try contradiction
  rename_i ps h0 hpre
  split at he <;> try contradiction
  rename_i vs hs m1 hrun
  split at he <;> try contradiction
  rename_i hck
  split at he <;> try contradiction
  rename_i h1 hlast
  cases he
  obtain ⟨r0, s0, hpl, bf, of, fv, p1, p2, p3⟩ := preD_spec (B := B) (φ := φ) (w := { w with drawn := w.drawn + 1 }) hpre (fun x d hd hk c hq v h1 hact hev => by
    obtain ⟨o, ho⟩ := hget x d hd
    obtain ⟨ob, e, _⟩ := free_ok (hco x o d ho hd) (hfs x o d ho hd hk) hact hev
    exact ⟨ob, e⟩) (r.drew _)
  obtain ⟨V, M, HS, e1, e2, e3, e4, e5, e6, e7, e8⟩ := runD_spec hrun
  refine wp_region_any hm ?_
  refine draw_main (h := h) (φ := φ) (w0 := { w with drawn := w.drawn + 1 }) (df := a.defers) (V := V) (M := M) (HS := HS) (bf := bf) (of := of) (fv := fv) hix hev hlen hco hop e1 ?_ ?_ e6 ?_ ?_ ?_ ?_ ?_ ?_ ops.size _ a _ ?_ (by simp) ?_ ?_
  · intro x d hd hk
    exact e4 x d hd (p1 x d hd hk)
  · intro x d hd hk
    obtain ⟨_, _, _, _, c, hq, _, _, _, hp⟩ := p2 x d hd hk
    exact (e5 x d _ hd hp).2.1
  · intro x d s hd hsr
    have hx : x < ds.length := (List.getElem?_eq_some_iff.1 hd).1
    have := checkD_ok hck x d (V x) (M x) hd (e7 x hx)
    obtain ⟨hh, h'', q1, q2⟩ := againD_ok this s hsr
    have hsl : s ≤ ds.length := by
      rcases Nat.lt_or_ge ds.length s with hgt | hle
      · exfalso
        have h3 : (h0 :: hs).length = ds.length + 1 := by
          have : ∀ {ds : List DOper} {ps : List (Option AV)} {m : Tr AV} {h : H} {vs : List (AV × Tr AV)} {hs : List H} {m' : Tr AV}, runD L ev ds ps m h = some (vs, hs, m') → hs.length = ds.length := by
            intro ds
            induction ds with
            | nil => intro ps m h vs hs m' he; cases he; rfl
            | cons d ds ih =>
              intro ps m h vs hs m' he
              cases ps with
              | nil => cases he
              | cons p ps =>
                simp only [runD] at he
                split at he <;> try contradiction
                split at he <;> try contradiction
                rename_i hr
                cases he
                simp [ih hr]
          simp [this hrun]
        have := (List.getElem?_eq_some_iff.1 q1).1
        omega
      · exact hle
    rw [e8 s hsl] at q1
    cases q1
    exact ⟨_, h'', by omega, rfl, q2⟩
  · intro x d hd hk
    exact (p2 x d hd hk).1
  · intro x o d ho hd hk a w
    obtain ⟨_, _, _, _, c, hq, hact, hn, hev', hp⟩ := p2 x d hd hk
    obtain ⟨ob, eo, hf⟩ := free_ok (hco x o d ho hd) (hfs x o d ho hd hk) hact hev'
    have hob : ob = of x := by
      have := congrArg (fun h : H => h.m.get hq.next) eo
      simp only [newB] at this
      rw [Tr.get_set_same, Tr.get_set_same] at this
      cases this
      rfl
    subst hob
    obtain ⟨x', v', D, f1, f2⟩ := hf a w
    exact ⟨x', v', D, f1, fun ψ hψ => f2 ψ (by rw [hn]; exact hψ)⟩
  · intro x d hd hk
    obtain ⟨_, _, _, _, c, hq, hact, hn, hev', hp⟩ := p2 x d hd hk
    exact ⟨(e5 x d _ hd hp).1, (e5 x d _ hd hp).2.2⟩
  · intro x y dx dy hx hy hkx hky hb
    rcases Nat.lt_trichotomy x y with hlt | rfl | hlt
    · have := p3 x y dx dy hx hy hkx hky hlt; omega
    · rfl
    · have := p3 y x dy dx hy hx hky hkx hlt; omega
  · intro a' w' ψ q1 q2 q3 q4 q5
    have hl : HS ops.size = h' := by
      rw [nth_eq, e8 ds.length (Nat.le_refl _), hlen] at hlast
      exact Option.some.inj hlast
    rw [← hlen, e3] at q1
    rw [hl] at q2 q3
    exact hQ a' w' ψ q1 q2 ((Step.drew φ h w _).trans q3) q4 q5
  · simp [List.count_replicate]
  · intro x o _ hx
    rw [repl_false] at hx
    cases hx
  · refine ⟨φ, 0, m, Nat.zero_le _, ?_, ?_, ?_, ht, ?_, ?_, hN, rfl, ?_⟩
    · intro x d hd _
      constructor
      · intro hx; rw [repl_false] at hx; cases hx
      · intro hx; omega
    · rw [e2]; exact r0
    · rw [e2]; exact s0
    · intro t _; rfl
    · intro j d t _ hj
      rw [repl_false] at hj
      cases hj
    · intro x d hd hk _
      obtain ⟨q1, q2, q3, q4, _⟩ := p2 x d hd hk
      rw [e2]
      exact ⟨q3, q4, q2⟩

end
end Go.Clean

