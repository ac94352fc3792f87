/-
  CLEAN, part K4: the operations, each made ready once.
  CLEAN, part K5: code, made ready once.
  CLEAN, part K6: code that is made ready does what the plain evaluator does.
  CLEAN, part K7: the evaluator by structure is sound, and so is the quick one.
  CLEAN, part P: slices.Insert of one element before the only one: whatever the capacity, the same.
-/
import Derived.Test.YtiecbbepfjiceaaGreatDoorCleanG
set_option linter.unusedVariables false
set_option linter.unusedSimpArgs false
namespace Go.Clean

structure OpK where
  run : Tr AV → H → KV → R

/-- the heap, laid out -/
noncomputable def packH (h : H) (k : H → R) : R :=
  H.rec (motive := fun _ => R) (fun m n => Tr.rec (motive := fun _ => R) (fun a b c d o => forceN n fun n => k ⟨⟨a, b, c, d, o⟩, n⟩) m) h
theorem packH_eq (h : H) (k : H → R) : packH h k = k h := rfl
noncomputable def outR (r : Option (AV × H)) (k : KV) : R :=
  Option.rec (motive := fun _ => R) none (fun p => Prod.rec (motive := fun _ => R) (fun v h => packV v fun v => packH h fun h => k v h) p) r
theorem outR_eq (r : Option (AV × H)) (k : KV) : outR r k = bindO r k := by
  cases r with
  | none => rfl
  | some p =>
    obtain ⟨v, h⟩ := p
    show packV v (fun v => packH h fun h => k v h) = k v h
    rw [packV_eq]
    rfl
noncomputable def valR (r : Option AV) (k : AV → R) : R := Option.rec (motive := fun _ => R) none (fun v => packV v k) r
theorem valR_eq (r : Option AV) (k : AV → R) : valR r k = match r with | some v => k v | none => none := by
  cases r with
  | none => rfl
  | some v => exact packV_eq v k

noncomputable def onNat (v : AV) (k : Nat → R) : R := onInt v fun _ z => Int.rec (motive := fun _ => R) k (fun _ => none) z
theorem onNat_eq (v : AV) (k : Nat → R) : onNat v k = match natOf v with | some n => k n | none => none := by
  unfold onNat
  rw [onInt_eq]
  cases v <;> try rfl
  case int kk n => cases n <;> rfl

structure ArK where
  run : AV → AV → (AV → R) → R
def slowS (op : BinOp) (k : IntKind) (a b : Int) (j : AV → R) : R :=
  match shiftI op k a b with
  | some z => j (.int k z)
  | none => none
noncomputable def strK : BinOp → List Nat → List Nat → (AV → R) → R
  | .add => fun a b j => Bool.rec (motive := fun _ => R) none (appR a b fun s => j (.str s)) (Nat.ble (Nat.add (lenR a) (lenR b)) (nat_lit 1000000000))
  | .eql => fun a b j => boolOut (eqR a b) j
  | .neq => fun a b j => Bool.rec (motive := fun _ => R) (j (.bool true)) (j (.bool false)) (eqR a b)
  | _ => fun _ _ _ => none
noncomputable def intK2 (op : BinOp) : ArK :=
  ⟨fun a b j => AV.rec (motive_1 := fun _ => R) (motive_2 := fun _ => R) (fun _ => none) (fun ka z => AV.rec (motive_1 := fun _ => R) (motive_2 := fun _ => R) (fun _ => none) (fun kk n => Bool.rec (motive := fun _ => R) none (Int.rec (motive := fun _ => R) (fun x => Int.rec (motive := fun _ => R) (fun y => (natK op).run ka x y j) (fun y => slowI op ka (.ofNat x) (.negSucc y) j) n) (fun x => slowI op ka (.negSucc x) n j) z) (kEq ka kk)) (fun _ => none) (none) (fun _ _ => none) (fun _ _ => none) (none) (fun _ _ _ _ _ => none) (none) (none) (fun _ => none) (none) (fun _ _ _ _ _ => none) (none) (fun _ _ _ => none) (fun _ _ => none) (fun _ _ => none) (fun _ => none) (fun _ => none) (fun _ _ _ => none) none (fun _ _ _ _ => none) b) (fun s => onStr b fun t => strK op s t j) (none) (fun _ _ => none) (fun _ _ => none) (none) (fun _ _ _ _ _ => none) (none) (none) (fun _ => none) (none) (fun _ _ _ _ _ => none) (none) (fun _ _ _ => none) (fun _ _ => none) (fun _ _ => none) (fun _ => none) (fun _ => none) (fun i lo hi => onInt b fun kb c => Option.rec (motive := fun _ => R) none (fun b => boolOut b j) (itokCmp op lo hi kb c)) none (fun _ _ _ _ => none) a⟩
noncomputable def shK (op : BinOp) (f : IntKind → Nat → Nat → (AV → R) → R) : ArK :=
  ⟨fun a b j => onInt a fun ka x => onInt b fun _ y => Int.rec (motive := fun _ => R) (fun x => Int.rec (motive := fun _ => R) (fun y => f ka x y j) (fun y => slowS op ka (.ofNat x) (.negSucc y) j) y) (fun x => slowS op ka (.negSucc x) y j) x⟩
noncomputable def arK : BinOp → ArK
  | .shl => shK .shl shlN
  | .shr => shK .shr shrN
  | op => intK2 op
/-- what evalOp does -/
def arV (op : BinOp) (a b : AV) : Option AV :=
  match a, b with
  | .int k a, .int k' b => match op with
    | .shl => match shiftI .shl k a b with
      | some z => some (.int k z)
      | none => none
    | .shr => match shiftI .shr k a b with
      | some z => some (.int k z)
      | none => none
    | op => if k = k' then match arithI op k a b with
        | some (.inl z) => some (.int k z)
        | some (.inr z) => some (.bool z)
        | none => none
      else none
  | .str a, .str b => match op with
    | .add => match Nat.ble (a.length + b.length) 1000000000 with
      | true => some (.str (a ++ b))
      | false => none
    | .eql => some (.bool (eqNats a b))
    | .neq => some (.bool (!eqNats a b))
    | _ => none
  | .itok _ lo hi, .int k c => match itokCmp op lo hi k c with
    | some b => some (.bool b)
    | none => none
  | _, _ => none
theorem evalOp_arith (L : Laid) (op : BinOp) (x y : AO) (m : Tr AV) (h : H) : evalOp L (.arith op x y) m h = (arV op (aev x m) (aev y m)).map fun v => (v, h) := by
  simp only [evalOp]
  unfold arV
  cases aev x m <;> try rfl
  case int k a =>
    cases aev y m <;> try rfl
    case int k' b =>
      cases op
      case shl => simp only; cases shiftI .shl k a b <;> rfl
      case shr => simp only; cases shiftI .shr k a b <;> rfl
      all_goals
        simp only
        by_cases e : k = k'
        · rw [if_pos e, if_pos e]
          split <;> rename_i e2 <;> rw [e2] <;> rfl
        · rw [if_neg e, if_neg e]; rfl
  case str a =>
    cases aev y m <;> try rfl
    case str b =>
      cases op <;> try rfl
      case add => simp only; cases Nat.ble (a.length + b.length) 1000000000 <;> rfl
  case itok i lo hi =>
    cases aev y m <;> try rfl
    case int k c =>
      simp only
      cases itokCmp op lo hi k c <;> rfl
def bindV (r : Option AV) (j : AV → R) : R :=
  match r with
  | some v => j v
  | none => none
theorem slowI_eq (op : BinOp) (k : IntKind) (a b : Int) (j : AV → R) : slowI op k a b j = bindV (match arithI op k a b with
        | some (.inl z) => some (.int k z)
        | some (.inr z) => some (.bool z)
        | none => none) j := by
  unfold slowI
  split <;> rename_i e <;> rw [e] <;> rfl
theorem intK2_int (op : BinOp) (k k' : IntKind) (a b : Int) (j : AV → R) : (intK2 op).run (.int k a) (.int k' b) j = if k = k' then slowI op k a b j else none := by
  show Bool.rec (motive := fun _ => R) none
    (Int.rec (motive := fun _ => R) (fun x => Int.rec (motive := fun _ => R) (fun y => (natK op).run k x y j) (fun y => slowI op k (.ofNat x) (.negSucc y) j) b) (fun x => slowI op k (.negSucc x) b j) a) (kEq k k') = _
  cases hk : kEq k k' with
  | false => rw [if_neg (fun e => by rw [kEq_iff.2 e] at hk; cases hk)]
  | true =>
    rw [if_pos (kEq_iff.1 hk)]
    cases a with
    | negSucc x => rfl
    | ofNat x =>
      cases b with
      | negSucc y => rfl
      | ofNat y => exact natK_eq op k x y j
theorem strK_eq (op : BinOp) (a b : List Nat) (j : AV → R) : strK op a b j = bindV (match op with
    | .add => match Nat.ble (a.length + b.length) 1000000000 with
      | true => some (.str (a ++ b))
      | false => none
    | .eql => some (.bool (eqNats a b))
    | .neq => some (.bool (!eqNats a b))
    | _ => none) j := by
  cases op <;> try rfl
  case add =>
    show Bool.rec (motive := fun _ => R) none (appR a b fun s => j (.str s)) (Nat.ble (lenR a + lenR b) 1000000000) = _
    rw [lenR_eq, lenR_eq, appR_eq]
    simp only
    cases Nat.ble (a.length + b.length) 1000000000 <;> rfl
  case eql => exact (boolOut_eq _ j).trans (by rw [eqR_eq]; rfl)
  case neq =>
    show Bool.rec (motive := fun _ => R) (j (.bool true)) (j (.bool false)) (eqR a b) = j (.bool (!eqNats a b))
    rw [eqR_eq]
    cases eqNats a b <;> rfl
theorem shK_eq (op : BinOp) (f : IntKind → Nat → Nat → (AV → R) → R) (hf : ∀ k x y j, f k x y j = slowS op k (.ofNat x) (.ofNat y) j) (a b : AV) (j : AV → R) :
    (shK op f).run a b j = match a, b with | .int k a, .int _ b => slowS op k a b j | _, _ => none := by
  cases a <;> try rfl
  case int k a =>
    cases b <;> try rfl
    case int k' b =>
      show (Int.rec (motive := fun _ => R) (fun x => Int.rec (motive := fun _ => R) (fun y => f k x y j) (fun y => slowS op k (.ofNat x) (.negSucc y) j) b) (fun x => slowS op k (.negSucc x) b j) a : R) = slowS op k a b j
      cases a with
      | negSucc x => rfl
      | ofNat x =>
        cases b with
        | negSucc y => rfl
        | ofNat y => exact hf k x y j
theorem intK2_eq (op : BinOp) (h1 : op ≠ .shl) (h2 : op ≠ .shr) (a b : AV) (j : AV → R) : (intK2 op).run a b j = bindV (arV op a b) j := by
  unfold arV
  cases a <;> try rfl
  case int k a =>
    cases b <;> try rfl
    case int k' b =>
      refine (intK2_int op k k' a b j).trans ?_
      by_cases e : k = k'
      · rw [if_pos e]
        cases op <;> first | exact absurd rfl h1 | exact absurd rfl h2 | (simp only [if_pos e]; exact slowI_eq _ _ _ _ j)
      · rw [if_neg e]
        cases op <;> first | exact absurd rfl h1 | exact absurd rfl h2 | (simp only [if_neg e]; rfl)
  case str a =>
    cases b <;> try rfl
    case str b => exact strK_eq op a b j
  case itok i lo hi =>
    cases b <;> try rfl
    case int k c =>
      show Option.rec (motive := fun _ => R) none (fun b => boolOut b j) (itokCmp op lo hi k c) = _
      simp only
      cases itokCmp op lo hi k c with
      | none => rfl
      | some b => exact boolOut_eq b j
theorem arK_eq (op : BinOp) (a b : AV) (j : AV → R) : (arK op).run a b j = bindV (arV op a b) j := by
  have hsl : ∀ op, (∀ k a b, slowS op k a b j = bindV (match shiftI op k a b with | some z => some (.int k z) | none => none) j) := by
    intro op k a b
    unfold slowS
    cases shiftI op k a b <;> rfl
  cases op
  case shl =>
    show (shK .shl shlN).run a b j = _
    rw [shK_eq .shl shlN (fun k x y j => shlN_eq k x y j)]
    unfold arV
    cases a <;> try rfl
    all_goals cases b <;> try rfl
    all_goals first | exact hsl .shl _ _ _ | (rename_i k c; cases k <;> rfl)
  case shr =>
    show (shK .shr shrN).run a b j = _
    rw [shK_eq .shr shrN (fun k x y j => shrN_eq k x y j)]
    unfold arV
    cases a <;> try rfl
    all_goals cases b <;> try rfl
    all_goals first | exact hsl .shr _ _ _ | (rename_i k c; cases k <;> rfl)
  all_goals exact intK2_eq _ (by intro e; cases e) (by intro e; cases e) a b j

structure SubK where
  run : List AV → (AV → R) → R
noncomputable def partK (off n : Nat) : Bool → SubK
  | true => ⟨fun l k => subR l off n fun r => k (.agg r)⟩
  | false => ⟨fun l k => nthR l off k⟩
theorem partK_eq (off n : Nat) (agg : Bool) (l : List AV) (k : AV → R) : (partK off n agg).run l k = match partA l off n agg with | some v => k v | none => none := by
  cases agg with
  | true =>
    show subR l off n (fun r => k (.agg r)) = _
    rw [subR_eq]
    simp only [partA]
    cases sub l off n <;> rfl
  | false =>
    show nthR l off k = _
    rw [nthR_eq]
    simp only [partA]
    cases nth l off <;> rfl

structure LoadK where
  run : H → AV → (AV → R) → R
noncomputable def loadK (L : Laid) (n : Nat) : Bool → LoadK
  | true => ⟨fun h v k => onPtr v fun b o => onCells h b fun l _ _ _ => subR l o n fun r => k (.agg r)⟩
  | false => ⟨fun h v k => loadV L h k v⟩

noncomputable def jop (L : Laid) : COp → OpK
  | .move x => ⟨fun m h k => (aoK x).run m fun v => k v h⟩
  | .pick c a b => ⟨fun m h k => (aoK c).run m fun c => onBool c fun c => Bool.rec (motive := fun _ => R) ((aoK b).run m fun v => k v h) ((aoK a).run m fun v => k v h) c⟩
  | .alloc T z => ⟨fun _ h k => newR h (.cells z T false false) fun b h => k (.ptr b (nat_lit 0)) h⟩
  | .box T x => ⟨fun m h k => (aoK x).run m fun v => Bool.rec (motive := fun _ => R) none (newR h (.cells (cellsAR v) T false false) fun b h => k (.ptr b (nat_lit 0)) h) (cellsOkR (cellsAR v))⟩
  | .build z ps => ⟨fun m h k => Option.rec (motive := fun _ => R) none (fun l => listR l fun l => Bool.rec (motive := fun _ => R) none (k (.agg l) h) (cellsOkR l)) (fillA z (partsA m ps))⟩
  | .buildSlice T z n ps => ⟨fun m h k => Option.rec (motive := fun _ => R) none (fun l => listR l fun l => Bool.rec (motive := fun _ => R) none (newR h (.cells l T false false) fun b h => k (.slice b (nat_lit 0) n n (nat_lit 0)) h) (cellsOkR l)) (fillA (copies z n) (partsA m ps))⟩
  | .load agg n a => ⟨fun m h k => (aoK a).run m fun v => (loadK L n agg).run h v fun v => k v h⟩
  | .store n a x => ⟨fun m h k => (aoK a).run m fun v => (aoK x).run m fun x => onPtr v fun b o =>
      Bool.rec (motive := fun _ => R) none (Bool.rec (motive := fun _ => R) none (setCellsR h b o (cellsAR x) fun h => k (.tuple []) h) (cellsOkR (cellsAR x))) (Nat.beq (lenR (cellsAR x)) n)⟩
  | .nilCheck x => ⟨fun m h k => (aoK x).run m fun v => onSome (fun v => k v h) v⟩
  | .arith op x y => ⟨fun m h k => (aoK x).run m fun x => (aoK y).run m fun y => (arK op).run x y fun v => k v h⟩
  | .eq neg kk x y => ⟨fun m h k => (aoK x).run m fun x => (aoK y).run m fun y => Option.rec (motive := fun _ => R) none (fun b => boolOut (notIf neg b) fun v => k v h) (eqK kk x y)⟩
  | .un .not x => ⟨fun m h k => (aoK x).run m fun v => onBool v fun b => Bool.rec (motive := fun _ => R) (k (.bool true) h) (k (.bool false) h) b⟩
  | .toInt kk x => ⟨fun m h k => (aoK x).run m fun v => onInt v fun _ n => Int.rec (motive := fun _ => R) (fun a => natOut kk a fun v => k v h) (fun a => packV (.int kk (wrapF kk (.negSucc a))) fun v => k v h) n⟩
  | .strToBytes T x => ⟨fun m h k => (aoK x).run m fun v => onStr v fun s => listR (bytesA s) fun l => forceN (lenR s) fun n => newR h (.cells l T true false) fun b h => k (.slice b (nat_lit 0) n n (nat_lit 1)) h⟩
  | .strToStr x => ⟨fun m h k => (aoK x).run m fun v => onStr v fun s => k (.str s) h⟩
  | .makeIface T x => ⟨fun m h k => (aoK x).run m fun v => k (.iface T v) h⟩
  | .makeMap => ⟨fun _ h k => newR h (.map []) fun b h => k (.map b) h⟩
  | .makeSlice T z bytes l c => ⟨fun m h k => (aoK l).run m fun l => (aoK c).run m fun c => onNat l fun n => onNat c fun c =>
      Bool.rec (motive := fun _ => R) none (Bool.rec (motive := fun _ => R) none (Bool.rec (motive := fun _ => R) none
        (listR (copies z c) fun l => newR h (.cells l T false false) fun b h => k (.slice b (nat_lit 0) n c (nat_lit 0)) h) (Nat.ble c (nat_lit 1000000))) (Nat.ble (Nat.mul c bytes) (nat_lit 1000000000))) (Nat.ble n c)⟩
  | .slice sk x lo hi mx => ⟨fun m h k => (aoK x).run m fun v => valR (evalSlice sk v (aevO lo m) (aevO hi m) (aevO mx m)) fun v => k v h⟩
  | .fieldAddr off x => ⟨fun m h k => (aoK x).run m fun v => onAddr off (fun v => k v h) v⟩
  | .field agg off n x => ⟨fun m h k => (aoK x).run m fun v => onAgg v fun l => (partK off n agg).run l fun v => k v h⟩
  | .idxArr n size x i => ⟨fun m h k => (aoK x).run m fun x => (aoK i).run m fun i => onNat i fun i => Bool.rec (motive := fun _ => R) none (onAddr (Nat.mul i size) (fun v => k v h) x) (Nat.blt i n)⟩
  | .idxRow size x i => ⟨fun m h k => (aoK x).run m fun x => (aoK i).run m fun i => onNat i fun i => onSlice x fun b o n _ _ => Bool.rec (motive := fun _ => R) none (forceN (Nat.add o (Nat.mul i size)) fun s => k (.ptr b s) h) (Nat.blt i n)⟩
  | .idxStr x i => ⟨fun m h k => (aoK x).run m fun x => (aoK i).run m fun i => onNat i fun i => onStr x fun s => nthR s i fun b => k (.int .u8 (.ofNat b)) h⟩
  | .idxAgg agg n size x i => ⟨fun m h k => (aoK x).run m fun x => (aoK i).run m fun i => onNat i fun i => Bool.rec (motive := fun _ => R) none (onAgg x fun l => forceN (Nat.mul i size) fun s => (partK s size agg).run l fun v => k v h) (Nat.blt i n)⟩
  | .extract x i => ⟨fun m h k => (aoK x).run m fun v => onTuple v fun l => nthR l i fun v => k v h⟩
  | .lenStr x => ⟨fun m h k => (aoK x).run m fun v => onStr v fun s => forceN (lenR s) fun n => k (.int .i64 (.ofNat n)) h⟩
  | .lenRow x => ⟨fun m h k => (aoK x).run m fun v => onLen (fun n => k (.int .i64 (.ofNat n)) h) v⟩
  | .append size T bytes s x => ⟨fun m h k => (aoK s).run m fun s => (aoK x).run m fun x => appendR size T bytes s x h k⟩
  | .bytesToStr x => ⟨fun m h k => outR (evalOp L (.bytesToStr x) m h) k⟩
  | c => ⟨fun m h k => outR (evalOp L c m h) k⟩

theorem bindO_map (r : Option AV) (h : H) (k : KV) : bindO (r.map fun v => (v, h)) k = bindV r fun v => k v h := by cases r <;> rfl

theorem jop_eq (L : Laid) (c : COp) (m : Tr AV) (h : H) (k : KV) : (jop L c).run m h k = bindO (evalOp L c m h) k := by
  cases c
  case move x => exact aoK_eq x m _
  case pick c a b =>
    show (aoK c).run m (fun c => onBool c fun c => Bool.rec (motive := fun _ => R) ((aoK b).run m fun v => k v h) ((aoK a).run m fun v => k v h) c) = _
    rw [aoK_eq, onBool_eq]
    simp only [evalOp, aoK_eq]
    cases aev c m <;> try rfl
    rename_i b
    cases b <;> rfl
  case alloc T z =>
    show newR h (.cells z T false false) (fun b h => k (.ptr b (nat_lit 0)) h) = _
    rw [newR_eq]
    rfl
  case box T x =>
    show (aoK x).run m (fun v => Bool.rec (motive := fun _ => R) none (newR h (.cells (cellsAR v) T false false) fun b h => k (.ptr b (nat_lit 0)) h) (cellsOkR (cellsAR v))) = _
    rw [aoK_eq]
    simp only [evalOp, newR_eq, cellsAR_eq, cellsOkR_eq]
    cases cellsOk (cellsA (aev x m)) <;> rfl
  case build z ps =>
    show Option.rec (motive := fun _ => R) none (fun l => listR l fun l => Bool.rec (motive := fun _ => R) none (k (.agg l) h) (cellsOkR l)) (fillA z (partsA m ps)) = _
    simp only [evalOp]
    cases fillA z (partsA m ps) with
    | none => rfl
    | some l =>
      show listR l (fun l => Bool.rec (motive := fun _ => R) none (k (.agg l) h) (cellsOkR l)) = _
      rw [listR_eq, cellsOkR_eq]
      simp only
      cases cellsOk l <;> rfl
  case buildSlice T z n ps =>
    show Option.rec (motive := fun _ => R) none (fun l => listR l fun l => Bool.rec (motive := fun _ => R) none (newR h (.cells l T false false) fun b h => k (.slice b (nat_lit 0) n n (nat_lit 0)) h) (cellsOkR l)) (fillA (copies z n) (partsA m ps)) = _
    simp only [evalOp]
    cases fillA (copies z n) (partsA m ps) with
    | none => rfl
    | some l =>
      show listR l (fun l => Bool.rec (motive := fun _ => R) none (newR h (.cells l T false false) fun b h => k (.slice b (nat_lit 0) n n (nat_lit 0)) h) (cellsOkR l)) = _
      rw [listR_eq, cellsOkR_eq, newR_eq]
      simp only
      cases cellsOk l <;> rfl
  case load agg n a =>
    show (aoK a).run m (fun v => (loadK L n agg).run h v fun v => k v h) = _
    rw [aoK_eq]
    cases agg with
    | true =>
      show onPtr (aev a m) (fun b o => onCells h b fun l _ _ _ => subR l o n fun r => k (.agg r) h) = _
      rw [onPtr_eq]
      simp only [evalOp]
      cases aev a m <;> try rfl
      case ptr b o =>
        simp only [partA]
        rw [onCells_eq]
        cases h.m.get b with
        | none => rfl
        | some x =>
          cases x with
          | cells l T row fr =>
            simp only
            rw [subR_eq]
            cases sub l o n <;> rfl
          | map es => rfl
          | dead => rfl
    | false =>
      show loadV L h (fun v => k v h) (aev a m) = _
      rw [loadV_eq L h _ n]
      simp only [evalOp]
      cases aev a m <;> try rfl
      case ptr b o =>
        simp only [partA]
        cases h.m.get b with
        | none => rfl
        | some x =>
          cases x with
          | cells l T row fr =>
            simp only
            cases nth l o <;> rfl
          | map es => rfl
          | dead => rfl
      case gptr g o =>
        simp only
        cases L g o <;> rfl
  case store n a x =>
    show (aoK a).run m (fun v => (aoK x).run m fun x => onPtr v fun b o =>
      Bool.rec (motive := fun _ => R) none (Bool.rec (motive := fun _ => R) none (setCellsR h b o (cellsAR x) fun h => k (.tuple []) h) (cellsOkR (cellsAR x))) (Nat.beq (lenR (cellsAR x)) n)) = _
    rw [aoK_eq, aoK_eq, onPtr_eq]
    simp only [evalOp]
    cases aev a m <;> try rfl
    case ptr b o =>
      simp only [cellsAR_eq, cellsOkR_eq, lenR_eq, setCellsR_eq]
      cases Nat.beq (cellsA (aev x m)).length n with
      | false => cases cellsOk (cellsA (aev x m)) <;> rfl
      | true =>
        cases cellsOk (cellsA (aev x m)) with
        | false => rfl
        | true =>
          simp only
          cases setCells h b o (cellsA (aev x m)) <;> rfl
  case nilCheck x =>
    show (aoK x).run m (fun v => onSome (fun v => k v h) v) = _
    rw [aoK_eq, onSome_eq]
    simp only [evalOp]
    cases aev x m <;> rfl
  case arith op x y =>
    show (aoK x).run m (fun x => (aoK y).run m fun y => (arK op).run x y fun v => k v h) = _
    rw [aoK_eq, aoK_eq, arK_eq, evalOp_arith, bindO_map]
  case eq neg kk x y =>
    show (aoK x).run m (fun x => (aoK y).run m fun y => Option.rec (motive := fun _ => R) none (fun b => boolOut (notIf neg b) fun v => k v h) (eqK kk x y)) = _
    rw [aoK_eq, aoK_eq]
    simp only [evalOp]
    cases eqK kk (aev x m) (aev y m) with
    | none => rfl
    | some b => exact boolOut_eq _ _
  case un op x =>
    cases op
    case neg => exact outR_eq (evalOp L (.un .neg x) m h) k
    case xor => exact outR_eq (evalOp L (.un .xor x) m h) k
    case plus => exact outR_eq (evalOp L (.un .plus x) m h) k
    show (aoK x).run m (fun v => onBool v fun b => Bool.rec (motive := fun _ => R) (k (.bool true) h) (k (.bool false) h) b) = _
    rw [aoK_eq, onBool_eq]
    simp only [evalOp]
    cases aev x m <;> try rfl
    rename_i b
    cases b <;> rfl
  case toInt kk x =>
    show (aoK x).run m (fun v => onInt v fun _ n => Int.rec (motive := fun _ => R) (fun a => natOut kk a fun v => k v h) (fun a => packV (.int kk (wrapF kk (.negSucc a))) fun v => k v h) n) = _
    rw [aoK_eq, onInt_eq]
    simp only [evalOp]
    cases aev x m <;> try rfl
    case int k' n =>
      cases n with
      | ofNat a => exact natOut_eq _ _ _
      | negSucc a => exact packV_eq _ _
  case strToBytes T x =>
    show (aoK x).run m (fun v => onStr v fun s => listR (bytesA s) fun l => forceN (lenR s) fun n => newR h (.cells l T true false) fun b h => k (.slice b (nat_lit 0) n n (nat_lit 1)) h) = _
    rw [aoK_eq, onStr_eq]
    simp only [evalOp, listR_eq, forceN_eq, lenR_eq, newR_eq]
    cases aev x m <;> rfl
  case strToStr x =>
    show (aoK x).run m (fun v => onStr v fun s => k (.str s) h) = _
    rw [aoK_eq, onStr_eq]
    simp only [evalOp]
    cases aev x m <;> rfl
  case makeIface T x => exact aoK_eq x m _
  case makeMap =>
    show newR h (.map []) (fun b h => k (.map b) h) = _
    rw [newR_eq]
    rfl
  case makeSlice T z bytes l c =>
    show (aoK l).run m (fun l => (aoK c).run m fun c => onNat l fun n => onNat c fun c =>
      Bool.rec (motive := fun _ => R) none (Bool.rec (motive := fun _ => R) none (Bool.rec (motive := fun _ => R) none
        (listR (copies z c) fun l => newR h (.cells l T false false) fun b h => k (.slice b (nat_lit 0) n c (nat_lit 0)) h) (Nat.ble c (nat_lit 1000000))) (Nat.ble (Nat.mul c bytes) (nat_lit 1000000000))) (Nat.ble n c)) = _
    rw [aoK_eq, aoK_eq, onNat_eq]
    simp only [evalOp, onNat_eq, listR_eq, newR_eq, Nat.mul_eq]
    cases natOf (aev l m) with
    | none => rfl
    | some n =>
      simp only
      cases natOf (aev c m) with
      | none => rfl
      | some c =>
        simp only
        cases Nat.ble n c with
        | false => rfl
        | true =>
          cases Nat.ble (c * bytes) 1000000000 with
          | false => rfl
          | true => cases Nat.ble c 1000000 <;> rfl
  case slice sk x lo hi mx =>
    show (aoK x).run m (fun v => valR (evalSlice sk v (aevO lo m) (aevO hi m) (aevO mx m)) fun v => k v h) = _
    rw [aoK_eq, valR_eq]
    simp only [evalOp]
    cases evalSlice sk (aev x m) (aevO lo m) (aevO hi m) (aevO mx m) <;> rfl
  case fieldAddr off x =>
    show (aoK x).run m (fun v => onAddr off (fun v => k v h) v) = _
    rw [aoK_eq, onAddr_eq]
    simp only [evalOp]
    cases aev x m <;> rfl
  case field agg off n x =>
    show (aoK x).run m (fun v => onAgg v fun l => (partK off n agg).run l fun v => k v h) = _
    rw [aoK_eq, onAgg_eq]
    simp only [evalOp, partK_eq]
    cases aev x m <;> try rfl
    case agg l =>
      simp only
      cases partA l off n agg <;> rfl
  case idxArr n size x i =>
    show (aoK x).run m (fun x => (aoK i).run m fun i => onNat i fun i => Bool.rec (motive := fun _ => R) none (onAddr (Nat.mul i size) (fun v => k v h) x) (Nat.blt i n)) = _
    rw [aoK_eq, aoK_eq, onNat_eq]
    simp only [evalOp, onAddr_eq, Nat.mul_eq]
    cases natOf (aev i m) with
    | none => rfl
    | some j =>
      simp only
      cases Nat.blt j n with
      | false => rfl
      | true => cases aev x m <;> rfl
  case idxRow size x i =>
    show (aoK x).run m (fun x => (aoK i).run m fun i => onNat i fun i => onSlice x fun b o n _ _ => Bool.rec (motive := fun _ => R) none (forceN (Nat.add o (Nat.mul i size)) fun s => k (.ptr b s) h) (Nat.blt i n)) = _
    rw [aoK_eq, aoK_eq, onNat_eq]
    simp only [evalOp, onSlice_eq, forceN_eq, Nat.mul_eq, Nat.add_eq]
    cases natOf (aev i m) with
    | none => rfl
    | some j =>
      simp only
      cases aev x m <;> try rfl
      case slice b o n c ex =>
        simp only
        cases Nat.blt j n <;> rfl
  case idxStr x i =>
    show (aoK x).run m (fun x => (aoK i).run m fun i => onNat i fun i => onStr x fun s => nthR s i fun b => k (.int .u8 (.ofNat b)) h) = _
    rw [aoK_eq, aoK_eq, onNat_eq]
    simp only [evalOp, onStr_eq, nthR_eq]
    cases natOf (aev i m) with
    | none => rfl
    | some j =>
      simp only
      cases aev x m <;> try rfl
      case str s =>
        simp only
        cases nth s j <;> rfl
  case idxAgg agg n size x i =>
    show (aoK x).run m (fun x => (aoK i).run m fun i => onNat i fun i => Bool.rec (motive := fun _ => R) none (onAgg x fun l => forceN (Nat.mul i size) fun s => (partK s size agg).run l fun v => k v h) (Nat.blt i n)) = _
    rw [aoK_eq, aoK_eq, onNat_eq]
    simp only [evalOp, onAgg_eq, forceN_eq, partK_eq, Nat.mul_eq]
    cases natOf (aev i m) with
    | none => rfl
    | some j =>
      simp only
      cases Nat.blt j n with
      | false => rfl
      | true =>
        cases aev x m <;> try rfl
        case agg l =>
          simp only
          cases partA l (j * size) size agg <;> rfl
  case extract x i =>
    show (aoK x).run m (fun v => onTuple v fun l => nthR l i fun v => k v h) = _
    rw [aoK_eq, onTuple_eq]
    simp only [evalOp, nthR_eq]
    cases aev x m <;> try rfl
    case tuple l =>
      simp only
      cases nth l i <;> rfl
  case lenStr x =>
    show (aoK x).run m (fun v => onStr v fun s => forceN (lenR s) fun n => k (.int .i64 (.ofNat n)) h) = _
    rw [aoK_eq, onStr_eq]
    simp only [evalOp, forceN_eq, lenR_eq]
    cases aev x m <;> rfl
  case lenRow x =>
    show (aoK x).run m (fun v => onLen (fun n => k (.int .i64 (.ofNat n)) h) v) = _
    rw [aoK_eq, onLen_eq]
    simp only [evalOp]
    cases aev x m <;> rfl
  case append size T bytes s x =>
    show (aoK s).run m (fun s => (aoK x).run m fun x => appendR size T bytes s x h k) = _
    rw [aoK_eq, aoK_eq, appendR_eq]
    rfl
  case bytesToStr x => exact outR_eq (evalOp L (.bytesToStr x) m h) k
  case makeFunc f a b => exact outR_eq (evalOp L (.makeFunc f a b) m h) k
  case bytesMark x => exact outR_eq (evalOp L (.bytesMark x) m h) k
  case toUnsafe x => exact outR_eq (evalOp L (.toUnsafe x) m h) k
  case fromUnsafe T Ts x => exact outR_eq (evalOp L (.fromUnsafe T Ts x) m h) k
  case lookup kk z x i ok => exact outR_eq (evalOp L (.lookup kk z x i ok) m h) k
  case mapUpdate kk x y z => exact outR_eq (evalOp L (.mapUpdate kk x y z) m h) k
  case lenMap x => exact outR_eq (evalOp L (.lenMap x) m h) k
  case lenArr n => exact outR_eq (evalOp L (.lenArr n) m h) k
  case copy n d s => exact outR_eq (evalOp L (.copy n d s) m h) k
  case minmax mx a b => exact outR_eq (evalOp L (.minmax mx a b) m h) k
  case clear z x => exact outR_eq (evalOp L (.clear z x) m h) k
  case sliceData x => exact outR_eq (evalOp L (.sliceData x) m h) k
  case unsafeStr T p n => exact outR_eq (evalOp L (.unsafeStr T p n) m h) k
  case idxByteStr s c => exact outR_eq (evalOp L (.idxByteStr s c) m h) k
  case capRow x => exact outR_eq (evalOp L (.capRow x) m h) k
  case appendZ size T bytes z s x => exact outR_eq (evalOp L (.appendZ size T bytes z s x) m h) k
  case overlaps T x y => exact outR_eq (evalOp L (.overlaps T x y) m h) k
  case fail => exact outR_eq (evalOp L .fail m h) k

end Go.Clean

namespace Go.Clean

structure OpsK where
  run : Tr AV → H → KM → R
structure CodeK where
  run : Tr AV → H → KM → KX → R
structure FunK where
  run : List AV → H → KV → R
structure AosK where
  run : Tr AV → List AV → (List AV → R) → R
noncomputable def aosK : List AO → AosK
  | [] => ⟨fun _ l j => j l⟩
  | o :: r => ⟨fun m l j => (aoK o).run m fun v => (aosK r).run m l fun t => j (v :: t)⟩

section
variable (L : Laid) (cb : Nat → FunK)
noncomputable def actK : CAct → OpK
  | .op c => jop L c
  | .call f args => ⟨fun m h k => (aoK f).run m fun f => onFunc f fun f first cap => (aosK args).run m cap fun l => appR first l fun l => (cb f).run l h k⟩
noncomputable def guardR (c : Bool) (yes no : R) (v : AV) : R := AV.rec (motive_1 := fun _ => R) (motive_2 := fun _ => R) (fun b => Bool.rec (motive := fun _ => R) (Bool.rec (motive := fun _ => R) yes no c) (Bool.rec (motive := fun _ => R) no yes c) b) (fun _ _ => no) (fun _ => no) (no) (fun _ _ => no) (fun _ _ => no) (no) (fun _ _ _ _ _ => no) (no) (no) (fun _ => no) (no) (fun _ _ _ _ _ => no) (no) (fun _ _ _ => no) (fun _ _ => no) (fun _ _ => no) (fun v => none) (fun i => none) (fun _ _ _ => no) none (fun _ _ _ _ => none) v
noncomputable def guardK (g : Option (Nat × Bool)) (a : OpK) : OpK :=
  match g with
  | none => a
  | some (t, b) => ⟨fun m h k => (aoK (.tmp t)).run m fun v => guardR b (a.run m h k) (k (.tuple []) h) v⟩
noncomputable def dstK : Option Nat → PutK AV
  | some d => putT d
  | none => ⟨fun m _ k => k m⟩
noncomputable def operK (o : COper) : OpK := guardK o.guard (actK L cb o.act)
/-- an operation, and what comes behind it -/
noncomputable def stepK (o : COper) (r : OpsK) : OpsK :=
  match o with
  | ⟨some d, none, .op (.move (.tmp t))⟩ => ⟨fun m h k => Option.rec (motive := fun _ => R) ((putT d).run m (.tuple []) fun m => r.run m h k) (fun v => (putT d).run m v fun m => r.run m h k) ((getC t).run m)⟩
  | ⟨some d, none, .op (.move (.const v))⟩ => ⟨fun m h k => (putT d).run m v fun m => r.run m h k⟩
  | ⟨dst, g, act⟩ => ⟨fun m h k => (guardK g (actK L cb act)).run m h fun v h => (dstK dst).run m v fun m => r.run m h k⟩
noncomputable def opersK : List COper → OpsK
  | [] => ⟨fun m h k => k m h⟩
  | o :: l => stepK L cb o (opersK l)

/-! ### regions whose order is drawn -/
structure PreK where
  run : H → (List (Option AV) → H → R) → R
noncomputable def preK : List DOper → PreK
  | [] => ⟨fun h k => k [] h⟩
  | d :: l => match Nat.beq d.kind 3 with
    | true => match d.co.act with
      | .op c => ⟨fun h k => (jop L c).run .leaf h fun v h => (preK l).run h fun vs h => k (some v :: vs) h⟩
      | _ => ⟨fun _ _ => none⟩
    | false => ⟨fun h k => (preK l).run h fun vs h => k (none :: vs) h⟩
structure FreeK where
  run : Tr AV → AV → (AV → R) → R
noncomputable def freeK : Option (Nat × Bool) → FreeK
  | none => ⟨fun _ v k => k v⟩
  | some (t, b) => ⟨fun m v k => (aoK (.tmp t)).run m fun g => guardR b (k v) (k (.tuple [])) g⟩
structure RunK where
  run : List (Option AV) → Tr AV → H → (List (AV × Tr AV) → List H → Tr AV → R) → R
noncomputable def runK : List DOper → RunK
  | [] => ⟨fun _ m _ k => k [] [] m⟩
  | d :: l => ⟨fun ps m h k => List.rec (motive := fun _ => R) none (fun p ps _ => Option.rec (motive := fun _ => R)
      ((operK L cb d.co).run m h fun v h => (dstK d.co.dst).run m v fun m2 => (runK l).run ps m2 h fun vs hs m3 => k ((v, m) :: vs) (h :: hs) m3)
      (fun v => (freeK d.co.guard).run m v fun v => (dstK d.co.dst).run m v fun m2 => (runK l).run ps m2 h fun vs hs m3 => k ((v, m) :: vs) (h :: hs) m3) p) ps⟩
noncomputable def sameR (v v2 : AV) (yes : R) : R := AV.rec (motive_1 := fun _ => R) (motive_2 := fun _ => R) (fun _ => Bool.rec (motive := fun _ => R) none yes (avEq v v2)) (fun kk n => onInt v2 fun kb n2 => Bool.rec (motive := fun _ => R) none (Int.rec (motive := fun _ => R) (fun x => Int.rec (motive := fun _ => R) (fun y => Bool.rec (motive := fun _ => R) none yes (Nat.beq x y)) (fun _ => none) n2) (fun x => Int.rec (motive := fun _ => R) (fun _ => none) (fun y => Bool.rec (motive := fun _ => R) none yes (Nat.beq x y)) n2) n) (kEq kk kb)) (fun _ => Bool.rec (motive := fun _ => R) none yes (avEq v v2)) (Bool.rec (motive := fun _ => R) none yes (avEq v v2)) (fun b o => onPtr v2 fun b2 o2 => Bool.rec (motive := fun _ => R) none (Bool.rec (motive := fun _ => R) none yes (Nat.beq o o2)) (Nat.beq b b2)) (fun _ _ => Bool.rec (motive := fun _ => R) none yes (avEq v v2)) (Bool.rec (motive := fun _ => R) none yes (avEq v v2)) (fun _ _ _ _ _ => Bool.rec (motive := fun _ => R) none yes (avEq v v2)) (Bool.rec (motive := fun _ => R) none yes (avEq v v2)) (Bool.rec (motive := fun _ => R) none yes (avEq v v2)) (fun _ => Bool.rec (motive := fun _ => R) none yes (avEq v v2)) (Bool.rec (motive := fun _ => R) none yes (avEq v v2)) (fun _ _ _ _ _ => Bool.rec (motive := fun _ => R) none yes (avEq v v2)) (Bool.rec (motive := fun _ => R) none yes (avEq v v2)) (fun _ _ _ => Bool.rec (motive := fun _ => R) none yes (avEq v v2)) (fun _ _ => Bool.rec (motive := fun _ => R) none yes (avEq v v2)) (fun _ _ => Bool.rec (motive := fun _ => R) none yes (avEq v v2)) (fun _ => Bool.rec (motive := fun _ => R) none yes (avEq v v2)) (fun _ => Bool.rec (motive := fun _ => R) none yes (avEq v v2)) (fun _ _ _ => Bool.rec (motive := fun _ => R) none yes (avEq v v2)) none (fun _ _ _ _ => none) v
structure AgainK where
  run : List H → AV → Tr AV → R → R
noncomputable def againK (c : COper) : List Nat → AgainK
  | [] => ⟨fun _ _ _ k => k⟩
  | s :: l => ⟨fun hs v m k => nthR hs s fun h => (operK L cb c).run m h fun v2 _ => sameR v v2 ((againK c l).run hs v m k)⟩
structure CheckK where
  run : List H → List (AV × Tr AV) → R → R
noncomputable def checkK : List DOper → CheckK
  | [] => ⟨fun _ _ k => k⟩
  | d :: l => ⟨fun hs vs k => List.rec (motive := fun _ => R) k (fun p vs _ => Prod.rec (motive := fun _ => R) (fun v m => (againK L cb d.co d.rs).run hs v m ((checkK l).run hs vs k)) p) vs⟩
noncomputable def drawK (ds : List DOper) : OpsK :=
  ⟨fun m h k => (preK L ds).run h fun ps h0 => (runK L cb ds).run ps m h0 fun vs hs m2 => (checkK L cb ds).run (h0 :: hs) vs (nthR (h0 :: hs) ds.length fun h => k m2 h)⟩

/-! ### code -/
noncomputable def loopK (n : Nat) (b : CodeK) (kx : KX) : KM := Nat.rec (motive := fun _ => KM) (fun _ _ => none) (fun _ ih m h => b.run m h ih kx) n
variable (defs : Nat → Bool)
noncomputable def codeK : CCode → CodeK
  | .skip => ⟨fun m h kn _ => kn m h⟩
  | .ops l => ⟨fun m h kn _ => (opersK L cb l).run m h kn⟩
  | .opsDefer l f => ⟨fun m h kn _ => (opersK L cb l).run m h fun m h => (aoK f).run m fun f => onFunc f fun f _ _ => Bool.rec (motive := fun _ => R) none (kn m h) (defs f)⟩
  | .draw l => ⟨fun m h kn _ => (drawK L cb l).run m h kn⟩
  | .seq a b => ⟨fun m h kn kx => (codeK a).run m h (fun m h => (codeK b).run m h kn kx) kx⟩
  | .cond c a b => ⟨fun m h kn kx => (aoK c).run m fun c => onBool c fun c => Bool.rec (motive := fun _ => R) ((codeK b).run m h kn kx) ((codeK a).run m h kn kx) c⟩
  | .block i b => ⟨fun m h kn kx => (codeK b).run m h kn fun x m h => XA.rec (motive := fun _ => R) (kx .normal m h) (fun j => Bool.rec (motive := fun _ => R) (kx (.exit j) m h) (kn m h) (Nat.beq j i)) (kx .ret m h) x⟩
  | .loop b => ⟨fun m h _ kx => loopK (nat_lit 1000000000) (codeK b) kx m h⟩
  | .exit i => ⟨fun m h _ kx => kx (.exit i) m h⟩
  | .ret => ⟨fun m h _ kx => kx .ret m h⟩
  | .fail => ⟨fun _ _ _ _ => none⟩
end

/-! ### functions -/
structure ResK where
  run : Tr AV → H → (List AV → R) → R
noncomputable def resK : List CRes → ResK
  | [] => ⟨fun _ _ k => k []⟩
  | .tmp t :: l => ⟨fun m h k => (aoK (.tmp t)).run m fun v => (resK l).run m h fun vs => k (v :: vs)⟩
  | .cell agg n t :: l => ⟨fun m h k => (aoK (.tmp t)).run m fun p => onPtr p fun b o => onCells h b fun c _ _ _ => (partK o n agg).run c fun v => (resK l).run m h fun vs => k (v :: vs)⟩
/-- one value, or many -/
noncomputable def oneR (l : List AV) (k : AV → R) : R :=
  List.rec (motive := fun _ => R) (k (.tuple [])) (fun v r _ => List.rec (motive := fun _ => R) (k v) (fun x y _ => k (.tuple (v :: x :: y))) r) l
structure ArgsK where
  run : List AV → Tr AV → (Tr AV → R) → R
noncomputable def argsR (l : List AV) (k : Tr AV → R) : R :=
  List.rec (motive := fun _ => Nat → Tr AV → (Tr AV → R) → R) (fun _ m k => k m) (fun v _ ih i m k => (putT i).run m v fun m => forceN (Nat.succ i) fun i => ih i m k) l (nat_lit 0) .leaf k
noncomputable def funK (E : Env) (cb : Nat → FunK) (f : Nat) : FunK :=
  match E.prims f with
  | some p => ⟨fun args h k => outR (p args h) k⟩
  | none => match E.funcs f with
    | some fn => ⟨fun args h k => argsR args fun m => (codeK E.laid cb E.defs fn.body).run m h (fun m h => (resK fn.results).run m h fun l => oneR l fun v => k v h)
        (fun x m h => XA.rec (motive := fun _ => R) ((resK fn.results).run m h fun l => oneR l fun v => k v h) (fun _ => none) ((resK fn.results).run m h fun l => oneR l fun v => k v h) x)⟩
    | none => ⟨fun _ _ _ => none⟩
noncomputable def cbN (E : Env) (n : Nat) : Nat → FunK := Nat.rec (motive := fun _ => Nat → FunK) (fun _ => ⟨fun _ _ _ => none⟩) (fun _ ih f => funK E ih f) n
end Go.Clean

namespace Go.Clean

/-! ### the plain evaluator, by structure -/
abbrev XR := Option (XA × Tr AV × H)
def loopX : Nat → (Tr AV → H → XR) → Tr AV → H → XR
  | 0, _, _, _ => none
  | n + 1, f, m, h => match f m h with
    | some (.normal, m', h') => loopX n f m' h'
    | r => r
section
variable (L : Laid) (ev : Ev) (defs : Nat → Bool)
def evB (F : Nat) : CCode → Tr AV → H → XR
  | .skip, m, h => some (.normal, m, h)
  | .ops l, m, h => match evalOpers L ev l m h with
    | some (m', h') => some (.normal, m', h')
    | none => none
  | .opsDefer l f, m, h => match evalOpers L ev l m h with
    | some (m', h') => match aev f m' with
      | .func g _ _ => match defs g with
        | true => some (.normal, m', h')
        | false => none
      | _ => none
    | none => none
  | .draw l, m, h => match evalDraw L ev l m h with
    | some (m', h') => some (.normal, m', h')
    | none => none
  | .seq a b, m, h => match evB F a m h with
    | some (.normal, m', h') => evB F b m' h'
    | r => r
  | .cond c a b, m, h => match aev c m with
    | .bool true => evB F a m h
    | .bool false => evB F b m h
    | _ => none
  | .block i b, m, h => match evB F b m h with
    | some (.exit j, m', h') => match Nat.beq j i with
      | true => some (.normal, m', h')
      | false => some (.exit j, m', h')
    | r => r
  | .loop b, m, h => loopX F (evB F b) m h
  | .exit i, m, h => some (.exit i, m, h)
  | .ret, m, h => some (.ret, m, h)
  | .fail, _, _ => none
end
def callX (E : Env) (F : Nat) (ev : Ev) : Ev := fun f args h =>
  match E.prims f with
  | some p => p args h
  | none => match E.funcs f with
    | some fn => match evB E.laid ev E.defs F fn.body (argsM args 0 .leaf) h with
      | some (.exit _, _, _) => none
      | some (_, m', h') => match resAs m' h' fn.results with
        | some vs => some (one vs, h')
        | none => none
      | none => none
    | none => none
def evF (E : Env) (F : Nat) : Nat → Ev
  | 0 => fun _ _ _ => none
  | n + 1 => callX E F (evF E F n)

/-! ### the same -/
section
variable {L : Laid} {cb : Nat → FunK} {ev : Ev} {defs : Nat → Bool}
theorem aosK_eq : ∀ (l : List AO) (m : Tr AV) (r : List AV) (j : List AV → R), (aosK l).run m r j = j (aevs l m ++ r) := by
  intro l
  induction l with
  | nil => intro m r j; rfl
  | cons o l ih =>
    intro m r j
    show (aoK o).run m (fun v => (aosK l).run m r fun t => j (v :: t)) = _
    rw [aoK_eq, ih]
    rfl
def CbOk (cb : Nat → FunK) (ev : Ev) : Prop := ∀ f args h k, (cb f).run args h k = bindO (ev f args h) k
def evalAct (L : Laid) (ev : Ev) (a : CAct) (m : Tr AV) (h : H) : Option (AV × H) :=
  match a with
  | .op c => evalOp L c m h
  | .call f args => match aev f m with
    | .func f first cap => ev f (first ++ aevs args m ++ cap) h
    | _ => none
theorem actK_eq (hc : CbOk cb ev) (a : CAct) (m : Tr AV) (h : H) (k : KV) : (actK L cb a).run m h k = bindO (evalAct L ev a m h) k := by
  cases a with
  | op c => exact jop_eq L c m h k
  | call f args =>
    show (aoK f).run m (fun f => onFunc f fun f first cap => (aosK args).run m cap fun l => appR first l fun l => (cb f).run l h k) = _
    rw [aoK_eq, onFunc_eq]
    simp only [evalAct]
    cases aev f m <;> try rfl
    rename_i f first cap
    simp only
    rw [aosK_eq, appR_eq, hc, List.append_assoc]
theorem guardR_eq (c : Bool) (yes no : R) (v : AV) : guardR c yes no v = match (match v with | .raw _ => false | .tok _ => false | _ => true) with
    | false => none
    | true => match (match v with | .bool b => (match c with | true => b | false => !b) | _ => false) with
      | false => no
      | true => yes := by
  cases v <;> try rfl
  rename_i b
  cases b <;> cases c <;> rfl
theorem evalOper_act (o : COper) (m : Tr AV) (h : H) : evalOper L ev o m h = match guardOk o.guard m with
    | false => none
    | true => match wantedA o.guard m with
      | false => some (.undef, h)
      | true => evalAct L ev o.act m h := by
  unfold evalOper evalAct
  cases o.act <;> rfl
theorem guardK_eq (g : Option (Nat × Bool)) (a : OpK) (m : Tr AV) (h : H) (k : KV) (r : Option (AV × H)) (ha : a.run m h k = bindO r k) :
    (guardK g a).run m h k = bindO (match guardOk g m with | false => none | true => match wantedA g m with | false => some (.undef, h) | true => r) k := by
  cases g with
  | none => exact ha
  | some p =>
    obtain ⟨t, b⟩ := p
    show (aoK (.tmp t)).run m (fun v => guardR b (a.run m h k) (k (.tuple []) h) v) = _
    rw [aoK_eq, guardR_eq, ha]
    simp only [guardOk, wantedA]
    generalize aev (.tmp t) m = v
    cases v <;> try rfl
    rename_i c
    cases c <;> cases b <;> rfl
theorem operK_eq (hc : CbOk cb ev) (o : COper) (m : Tr AV) (h : H) (k : KV) : (operK L cb o).run m h k = bindO (evalOper L ev o m h) k := by
  rw [evalOper_act]
  exact guardK_eq o.guard (actK L cb o.act) m h k _ (actK_eq hc o.act m h k)
theorem dstK_eq (d : Option Nat) (m : Tr AV) (v : AV) (k : Tr AV → R) : (dstK d).run m v k = k (putA d v m) := by
  cases d with
  | none => rfl
  | some d => exact putT_eq d m v k

def bindM (r : Option (Tr AV × H)) (k : KM) : R :=
  match r with
  | some (m, h) => k m h
  | none => none
theorem stepK_eq (hc : CbOk cb ev) (o : COper) (r : OpsK) (m : Tr AV) (h : H) (k : KM) : (stepK L cb o r).run m h k = bindO (evalOper L ev o m h) fun v h => r.run (putA o.dst v m) h k := by
  have gen : ∀ o : COper, (operK L cb o).run m h (fun v h => (dstK o.dst).run m v fun m => r.run m h k) = bindO (evalOper L ev o m h) fun v h => r.run (putA o.dst v m) h k := by
    intro o
    rw [operK_eq hc]
    simp only [dstK_eq]
  unfold stepK
  split
  · rename_i d t
    show Option.rec (motive := fun _ => R) ((putT d).run m (.tuple []) fun m => r.run m h k) (fun v => (putT d).run m v fun m => r.run m h k) ((getC t).run m) = r.run (m.set d (match m.get t with | some v => v | none => .undef)) h k
    rw [getC_eq]
    simp only [putT_eq]
    cases m.get t <;> rfl
  · rename_i d v
    show (putT d).run m v (fun m => r.run m h k) = r.run (m.set d v) h k
    rw [putT_eq]
  · exact gen ⟨_, _, _⟩
theorem opersK_eq (hc : CbOk cb ev) : ∀ (l : List COper) (m : Tr AV) (h : H) (k : KM), (opersK L cb l).run m h k = bindM (evalOpers L ev l m h) k := by
  intro l
  induction l with
  | nil => intro m h k; rfl
  | cons o l ih =>
    intro m h k
    show (stepK L cb o (opersK L cb l)).run m h k = _
    rw [stepK_eq hc]
    simp only [evalOpers]
    cases evalOper L ev o m h with
    | none => rfl
    | some p =>
      obtain ⟨v, h'⟩ := p
      exact ih _ _ _

/-! draws -/
theorem preK_eq : ∀ (ds : List DOper) (h : H) (k : List (Option AV) → H → R), (preK L ds).run h k = match preD L ds h with | some (ps, h') => k ps h' | none => none := by
  intro ds
  induction ds with
  | nil => intro h k; rfl
  | cons d l ih =>
    intro h k
    simp only [preK, preD]
    cases hk : Nat.beq d.kind 3 with
    | false =>
      show (preK L l).run h (fun vs h => k (none :: vs) h) = _
      rw [ih]
      simp only
      cases preD L l h <;> rfl
    | true =>
      simp only
      cases ha : d.co.act with
      | call f args => rfl
      | op c =>
        show (jop L c).run .leaf h (fun v h => (preK L l).run h fun vs h => k (some v :: vs) h) = _
        rw [jop_eq]
        simp only
        cases evalOp L c .leaf h with
        | none => rfl
        | some p =>
          obtain ⟨v, h'⟩ := p
          show (preK L l).run h' (fun vs h => k (some v :: vs) h) = _
          rw [ih]
          simp only
          cases preD L l h' <;> rfl
theorem freeK_eq (g : Option (Nat × Bool)) (m : Tr AV) (v : AV) (k : AV → R) : (freeK g).run m v k = match guardOk g m with | true => k (freeV g m v) | false => none := by
  cases g with
  | none => rfl
  | some p =>
    obtain ⟨t, b⟩ := p
    show (aoK (.tmp t)).run m (fun g => guardR b (k v) (k (.tuple [])) g) = _
    rw [aoK_eq, guardR_eq]
    simp only [guardOk, freeV, wantedA]
    generalize aev (.tmp t) m = u
    cases u <;> try rfl
    rename_i c
    cases c <;> cases b <;> rfl
theorem runK_eq (hc : CbOk cb ev) : ∀ (ds : List DOper) (ps : List (Option AV)) (m : Tr AV) (h : H) (k : List (AV × Tr AV) → List H → Tr AV → R),
    (runK L cb ds).run ps m h k = match runD L ev ds ps m h with | some (vs, hs, m') => k vs hs m' | none => none := by
  intro ds
  induction ds with
  | nil => intro ps m h k; rfl
  | cons d l ih =>
    intro ps m h k
    cases ps with
    | nil => rfl
    | cons p ps =>
      simp only [runD]
      cases p with
      | none =>
        show (operK L cb d.co).run m h (fun v h => (dstK d.co.dst).run m v fun m2 => (runK L cb l).run ps m2 h fun vs hs m3 => k ((v, m) :: vs) (h :: hs) m3) = _
        rw [operK_eq hc]
        simp only
        cases evalOper L ev d.co m h with
        | none => rfl
        | some q =>
          obtain ⟨v, h'⟩ := q
          show (dstK d.co.dst).run m v (fun m2 => (runK L cb l).run ps m2 h' fun vs hs m3 => k ((v, m) :: vs) (h' :: hs) m3) = _
          rw [dstK_eq, ih]
          simp only
          cases runD L ev l ps (putA d.co.dst v m) h' <;> rfl
      | some v =>
        show (freeK d.co.guard).run m v (fun v => (dstK d.co.dst).run m v fun m2 => (runK L cb l).run ps m2 h fun vs hs m3 => k ((v, m) :: vs) (h :: hs) m3) = _
        rw [freeK_eq]
        simp only
        cases guardOk d.co.guard m with
        | false => rfl
        | true =>
          simp only
          rw [dstK_eq, ih]
          cases runD L ev l ps (putA d.co.dst (freeV d.co.guard m v) m) h <;> rfl
theorem sameR_eq (v v2 : AV) (yes : R) : sameR v v2 yes = match avEq v v2 with | true => yes | false => none := by
  have gen : ∀ v, (Bool.rec (motive := fun _ => R) none yes (avEq v v2)) = match avEq v v2 with | true => yes | false => none := by
    intro v
    cases avEq v v2 <;> rfl
  cases v <;> try exact gen _
  case raw u => exact gen (.raw u)
  case int kk n =>
    show onInt v2 (fun kb n2 => Bool.rec (motive := fun _ => R) none (Int.rec (motive := fun _ => R) (fun x => Int.rec (motive := fun _ => R) (fun y => Bool.rec (motive := fun _ => R) none yes (Nat.beq x y)) (fun _ => none) n2) (fun x => Int.rec (motive := fun _ => R) (fun _ => none) (fun y => Bool.rec (motive := fun _ => R) none yes (Nat.beq x y)) n2) n) (kEq kk kb)) = _
    rw [onInt_eq]
    cases v2 <;> try (simp only [avEq]; done)
    rename_i kb n2
    simp only [avEq]
    cases hk : kEq kk kb with
    | false => rw [if_neg (fun e => by rw [kEq_iff.2 e] at hk; cases hk)]
    | true =>
      rw [if_pos (kEq_iff.1 hk)]
      cases n <;> cases n2 <;> simp only [iBeq]
      all_goals split <;> rename_i e <;> rw [e]
  case ptr b o =>
    show onPtr v2 (fun b2 o2 => Bool.rec (motive := fun _ => R) none (Bool.rec (motive := fun _ => R) none yes (Nat.beq o o2)) (Nat.beq b b2)) = _
    rw [onPtr_eq]
    cases v2 <;> try (simp only [avEq]; done)
    rename_i b2 o2
    simp only [avEq]
    cases Nat.beq b b2 <;> cases Nat.beq o o2 <;> rfl
theorem againK_eq (hc : CbOk cb ev) (hs : List H) (c : COper) (v : AV) (m : Tr AV) (k : R) : ∀ l : List Nat, (againK L cb c l).run hs v m k = match againD L ev hs c v m l with | true => k | false => none := by
  intro l
  induction l with
  | nil => rfl
  | cons s l ih =>
    show nthR hs s (fun h => (operK L cb c).run m h fun v2 _ => sameR v v2 ((againK L cb c l).run hs v m k)) = _
    rw [nthR_eq]
    simp only [againD]
    cases nth hs s with
    | none => rfl
    | some h =>
      simp only
      rw [operK_eq hc]
      cases evalOper L ev c m h with
      | none => rfl
      | some p =>
        obtain ⟨v2, h2⟩ := p
        show sameR v v2 ((againK L cb c l).run hs v m k) = _
        rw [sameR_eq, ih]
        simp only
        cases avEq v v2 <;> rfl
theorem checkK_eq (hc : CbOk cb ev) (hs : List H) (k : R) : ∀ (ds : List DOper) (vs : List (AV × Tr AV)), (checkK L cb ds).run hs vs k = match checkD L ev hs ds vs with | true => k | false => none := by
  intro ds
  induction ds with
  | nil => intro vs; rfl
  | cons d l ih =>
    intro vs
    cases vs with
    | nil => rfl
    | cons p vs =>
      obtain ⟨v, m⟩ := p
      show (againK L cb d.co d.rs).run hs v m ((checkK L cb l).run hs vs k) = _
      rw [againK_eq hc, ih]
      simp only [checkD]
      cases againD L ev hs d.co v m d.rs <;> rfl
theorem drawK_eq (hc : CbOk cb ev) (ds : List DOper) (m : Tr AV) (h : H) (k : KM) : (drawK L cb ds).run m h k = bindM (evalDraw L ev ds m h) k := by
  show (preK L ds).run h (fun ps h0 => (runK L cb ds).run ps m h0 fun vs hs m2 => (checkK L cb ds).run (h0 :: hs) vs (nthR (h0 :: hs) ds.length fun h => k m2 h)) = _
  rw [preK_eq]
  unfold evalDraw
  cases preD L ds h with
  | none => rfl
  | some p =>
    obtain ⟨ps, h0⟩ := p
    simp only
    rw [runK_eq hc]
    cases runD L ev ds ps m h0 with
    | none => rfl
    | some q =>
      obtain ⟨vs, hs, m2⟩ := q
      simp only
      rw [checkK_eq hc, nthR_eq]
      cases checkD L ev (h0 :: hs) ds vs with
      | false => rfl
      | true =>
        simp only
        cases nth (h0 :: hs) ds.length <;> rfl

/-! code -/
def bindX (r : XR) (kn : KM) (kx : KX) : R :=
  match r with
  | some (.normal, m, h) => kn m h
  | some (x, m, h) => kx x m h
  | none => none
theorem loopK_eq (F : Nat) (b : CodeK) (f : Tr AV → H → XR) (hb : ∀ m h kn kx, b.run m h kn kx = bindX (f m h) kn kx) (kn : KM) (kx : KX) : ∀ (m : Tr AV) (h : H), loopK F b kx m h = bindX (loopX F f m h) kn kx := by
  induction F with
  | zero => intro m h; rfl
  | succ n ih =>
    intro m h
    show b.run m h (loopK n b kx) kx = _
    rw [hb]
    simp only [loopX]
    cases f m h with
    | none => rfl
    | some p =>
      obtain ⟨x, m', h'⟩ := p
      cases x with
      | normal => exact ih m' h'
      | exit i => rfl
      | ret => rfl
theorem codeK_eq (hc : CbOk cb ev) : ∀ (c : CCode) (m : Tr AV) (h : H) (kn : KM) (kx : KX), (codeK L cb defs c).run m h kn kx = bindX (evB L ev defs 1000000000 c m h) kn kx := by
  intro c
  induction c with
  | skip => intro m h kn kx; rfl
  | ops l =>
    intro m h kn kx
    show (opersK L cb l).run m h kn = _
    rw [opersK_eq hc]
    simp only [evB]
    cases evalOpers L ev l m h <;> rfl
  | opsDefer l f =>
    intro m h kn kx
    show (opersK L cb l).run m h (fun m h => (aoK f).run m fun f => onFunc f fun f _ _ => Bool.rec (motive := fun _ => R) none (kn m h) (defs f)) = _
    rw [opersK_eq hc]
    simp only [evB]
    cases evalOpers L ev l m h with
    | none => rfl
    | some p =>
      obtain ⟨m', h'⟩ := p
      show (aoK f).run m' (fun f => onFunc f fun f _ _ => Bool.rec (motive := fun _ => R) none (kn m' h') (defs f)) = _
      rw [aoK_eq, onFunc_eq]
      simp only
      cases aev f m' <;> try rfl
      rename_i g _ _
      simp only
      cases defs g <;> rfl
  | draw l =>
    intro m h kn kx
    show (drawK L cb l).run m h kn = _
    rw [drawK_eq hc]
    simp only [evB]
    cases evalDraw L ev l m h <;> rfl
  | seq a b iha ihb =>
    intro m h kn kx
    show (codeK L cb defs a).run m h (fun m h => (codeK L cb defs b).run m h kn kx) kx = _
    rw [iha]
    simp only [evB]
    cases evB L ev defs 1000000000 a m h with
    | none => rfl
    | some p =>
      obtain ⟨x, m', h'⟩ := p
      cases x with
      | normal => exact ihb m' h' kn kx
      | exit i => rfl
      | ret => rfl
  | cond c a b iha ihb =>
    intro m h kn kx
    show (aoK c).run m (fun c => onBool c fun c => Bool.rec (motive := fun _ => R) ((codeK L cb defs b).run m h kn kx) ((codeK L cb defs a).run m h kn kx) c) = _
    rw [aoK_eq, onBool_eq]
    simp only [evB]
    cases aev c m <;> try rfl
    rename_i v
    cases v with
    | true => exact iha m h kn kx
    | false => exact ihb m h kn kx
  | block i b ih =>
    intro m h kn kx
    show (codeK L cb defs b).run m h kn (fun x m h => XA.rec (motive := fun _ => R) (kx .normal m h) (fun j => Bool.rec (motive := fun _ => R) (kx (.exit j) m h) (kn m h) (Nat.beq j i)) (kx .ret m h) x) = _
    rw [ih]
    simp only [evB]
    cases evB L ev defs 1000000000 b m h with
    | none => rfl
    | some p =>
      obtain ⟨x, m', h'⟩ := p
      cases x with
      | normal => rfl
      | ret => rfl
      | exit j =>
        show Bool.rec (motive := fun _ => R) (kx (.exit j) m' h') (kn m' h') (Nat.beq j i) = _
        simp only
        cases Nat.beq j i <;> rfl
  | loop b ih => intro m h kn kx; exact loopK_eq 1000000000 _ _ (fun m h kn kx => ih m h kn kx) kn kx m h
  | exit i => intro m h kn kx; rfl
  | ret => intro m h kn kx; rfl
  | fail => intro m h kn kx; rfl
end

/-! functions -/
theorem resK_eq (m : Tr AV) (h : H) : ∀ (l : List CRes) (k : List AV → R), (resK l).run m h k = match resAs m h l with | some vs => k vs | none => none := by
  intro l
  induction l with
  | nil => intro k; rfl
  | cons r l ih =>
    intro k
    cases r with
    | tmp t =>
      show (aoK (.tmp t)).run m (fun v => (resK l).run m h fun vs => k (v :: vs)) = _
      rw [aoK_eq, ih]
      simp only [resAs, resA]
      cases resAs m h l <;> rfl
    | cell agg n t =>
      show (aoK (.tmp t)).run m (fun p => onPtr p fun b o => onCells h b fun c _ _ _ => (partK o n agg).run c fun v => (resK l).run m h fun vs => k (v :: vs)) = _
      rw [aoK_eq, onPtr_eq]
      simp only [resAs, resA]
      cases aev (.tmp t) m <;> try rfl
      rename_i b o
      simp only
      rw [onCells_eq]
      cases h.m.get b with
      | none => rfl
      | some x =>
        cases x with
        | map es => rfl
        | dead => rfl
        | cells c T row fr =>
          simp only
          rw [partK_eq]
          cases partA c o n agg with
          | none => rfl
          | some v =>
            simp only
            rw [ih]
            cases resAs m h l <;> rfl
theorem oneR_eq (l : List AV) (k : AV → R) : oneR l k = k (one l) := by
  cases l with
  | nil => rfl
  | cons v l => cases l <;> rfl
theorem argsR_go : ∀ (l : List AV) (i : Nat) (m : Tr AV) (k : Tr AV → R), List.rec (motive := fun _ => Nat → Tr AV → (Tr AV → R) → R) (fun _ m k => k m) (fun v _ ih i m k => (putT i).run m v fun m => forceN (Nat.succ i) fun i => ih i m k) l i m k = k (argsM l i m) := by
  intro l
  induction l with
  | nil => intro i m k; rfl
  | cons v l ih =>
    intro i m k
    show (putT i).run m v (fun m => forceN (Nat.succ i) fun i => List.rec (motive := fun _ => Nat → Tr AV → (Tr AV → R) → R) (fun _ m k => k m) (fun v _ ih i m k => (putT i).run m v fun m => forceN (Nat.succ i) fun i => ih i m k) l i m k) = _
    rw [putT_eq, forceN_eq, ih]
    rfl
theorem argsR_eq (l : List AV) (k : Tr AV → R) : argsR l k = k (argsM l 0 .leaf) := argsR_go l 0 .leaf k
theorem funK_eq {E : Env} {cb : Nat → FunK} {ev : Ev} (hc : CbOk cb ev) : CbOk (funK E cb) (callX E 1000000000 ev) := by
  intro f args h k
  unfold funK callX
  cases E.prims f with
  | some p => exact outR_eq (p args h) k
  | none =>
    simp only
    cases E.funcs f with
    | none => rfl
    | some fn =>
      show argsR args (fun m => (codeK E.laid cb E.defs fn.body).run m h (fun m h => (resK fn.results).run m h fun l => oneR l fun v => k v h)
        (fun x m h => XA.rec (motive := fun _ => R) ((resK fn.results).run m h fun l => oneR l fun v => k v h) (fun _ => none) ((resK fn.results).run m h fun l => oneR l fun v => k v h) x)) = _
      rw [argsR_eq, codeK_eq hc]
      simp only [resK_eq, oneR_eq]
      cases evB E.laid ev E.defs 1000000000 fn.body (argsM args 0 .leaf) h with
      | none => rfl
      | some p =>
        obtain ⟨x, m', h'⟩ := p
        cases x with
        | normal =>
          simp only [bindX]
          cases resAs m' h' fn.results <;> rfl
        | exit i => rfl
        | ret =>
          simp only [bindX]
          cases resAs m' h' fn.results <;> rfl
theorem cbN_eq (E : Env) : ∀ n, CbOk (cbN E n) (evF E 1000000000 n) := by
  intro n
  induction n with
  | zero => intro f args h k; rfl
  | succ n ih => exact funK_eq ih
/-- what the quick evaluator says -/
theorem cbN_ev {E : Env} {n f : Nat} {args : List AV} {h : H} {v : AV} {h' : H} (he : (cbN E n f).run args h (fun v h => some (v, h)) = some (v, h')) : evF E 1000000000 n f args h = some (v, h') := by
  rw [cbN_eq E n f args h] at he
  cases e : evF E 1000000000 n f args h with
  | none => rw [e] at he; cases he
  | some p => rw [e] at he; exact he
end Go.Clean

namespace Go.Clean
section
variable {B : Base} {P : Program} {ix : Ixs}

def CodeAt (B : Base) (P : Program) (ix : Ixs) (L : Laid) (ok : Nat → Bool) (cc : CCode) (f : Tr AV → H → XR) : Prop :=
  ∀ (N : Nat) (c : Code), CodeC P ix N c cc → ∀ m h x m' h', f m h = some (x, m', h') → ∀ φ w a (Q : Exit → Act → World → Prop), HR B L φ h w → TR φ m a → N ≤ a.tmps.size → DOk ok a.defers →
    (∀ a' w' ψ, TR ψ m' a' → HR B L ψ h' w' → Step φ h w ψ h' w' → N ≤ a'.tmps.size → DOk ok a'.defers → Q (exitOf x) a' w') →
    c.wp P Q a w

theorem loop_at {L : Laid} {ok : Nat → Bool} {cc : CCode} {f : Tr AV → H → XR} (hb : CodeAt B P ix L ok cc f) {N : Nat} {c : Code} (hc : CodeC P ix N c cc) : ∀ (F : Nat) m h x m' h', loopX F f m h = some (x, m', h') → ∀ φ w a (Q : Exit → Act → World → Prop), HR B L φ h w → TR φ m a → N ≤ a.tmps.size → DOk ok a.defers →
    (∀ a' w' ψ, TR ψ m' a' → HR B L ψ h' w' → Step φ h w ψ h' w' → N ≤ a'.tmps.size → DOk ok a'.defers → Q (exitOf x) a' w') → LoopAt P c Q a w := by
  intro F
  induction F with
  | zero => intro m h x m' h' he; cases he
  | succ F ih =>
    intro m h x m' h' he φ w a Q r ht hN hD hQ
    simp only [loopX] at he
    refine .next ?_
    split at he
    · rename_i m1 h1 he1
      refine hb N c hc m h .normal m1 h1 he1 φ w a _ r ht hN hD fun a1 w1 ψ t1 r1 s1 n1 d1 => ?_
      show LoopAt P c Q a1 w1
      exact ih m1 h1 x m' h' he ψ w1 a1 Q r1 t1 n1 d1 fun a2 w2 χ t2 r2 s2 n2 d2 => hQ a2 w2 χ t2 r2 (s1.trans s2) n2 d2
    · rename_i hne
      refine hb N c hc m h x m' h' he φ w a _ r ht hN hD fun a1 w1 ψ t1 r1 s1 n1 d1 => ?_
      cases x with
      | normal => exact absurd he (hne _ _)
      | exit i => exact hQ a1 w1 ψ t1 r1 s1 n1 d1
      | ret => exact hQ a1 w1 ψ t1 r1 s1 n1 d1

theorem evB_ok {L : Laid} {ok : Nat → Bool} {ev : Ev} (hm : P.follows .mixedOrders = true) (hix : IxOk B P ix) (hev : FnOk B L P ev) (F : Nat) : ∀ cc, CodeAt B P ix L ok cc (evB L ev ok F cc) := by
  intro cc
  induction cc with
  | skip =>
    intro N c hc m h x m' h' he φ w a Q r ht hN hD hQ
    cases he
    cases hc with
    | skip => exact wp_skip (hQ a w φ ht r (.refl _ _ _) hN hD)
    | label l => exact wp_label (hQ a w φ ht r (.refl _ _ _) hN hD)
  | ops l =>
    intro N c hc m h x m' h' he φ w a Q r ht hN hD hQ
    simp only [evB] at he
    split at he <;> try contradiction
    rename_i m1 h1 he1
    cases he
    cases hc with
    | ops hcs => exact region_ok hix hev hcs r ht hN he1 fun a' w' ψ q1 q2 q3 q4 q5 => hQ a' w' ψ q1 q2 q3 q4 (by rw [q5]; exact hD)
  | opsDefer l f =>
    intro N c hc m h x m' h' he φ w a Q r ht hN hD hQ
    simp only [evB] at he
    split at he <;> try contradiction
    rename_i m1 h1 he1
    split at he <;> try contradiction
    rename_i g p q e1
    split at he <;> try contradiction
    rename_i hg
    cases he
    cases hc with
    | opsDefer hcs => exact regionD_ok hix hev hcs r ht hN hD he1 e1 hg hQ
  | draw l =>
    intro N c hc m h x m' h' he φ w a Q r ht hN hD hQ
    simp only [evB] at he
    split at he <;> try contradiction
    rename_i m1 h1 he1
    cases he
    cases hc with
    | draw hcs hchk hsrc => exact draw_ok hm hix hev hcs hchk hsrc r ht hN he1 fun a' w' ψ q1 q2 q3 q4 q5 => hQ a' w' ψ q1 q2 q3 q4 (by rw [q5]; exact hD)
  | seq x0 y0 iha ihb =>
    intro N c hc m h x m' h' he φ w a Q r ht hN hD hQ
    simp only [evB] at he
    cases hc with
    | @seq a0 b0 _ _ ha hb =>
    refine wp_seq ?_
    split at he
    · rename_i m1 h1 he1
      refine iha N a0 ha m h .normal m1 h1 he1 φ w a _ r ht hN hD fun a1 w1 ψ t1 r1 s1 n1 d1 => ?_
      show b0.wp P Q a1 w1
      exact ihb N b0 hb m1 h1 x m' h' he ψ w1 a1 Q r1 t1 n1 d1 fun a2 w2 χ t2 r2 s2 n2 d2 => hQ a2 w2 χ t2 r2 (s1.trans s2) n2 d2
    · rename_i hne
      refine iha N a0 ha m h x m' h' he φ w a _ r ht hN hD fun a1 w1 ψ t1 r1 s1 n1 d1 => ?_
      cases x with
      | normal => exact absurd he (hne _ _)
      | exit i => exact hQ a1 w1 ψ t1 r1 s1 n1 d1
      | ret => exact hQ a1 w1 ψ t1 r1 s1 n1 d1
  | cond o x0 y0 iha ihb =>
    intro N c hc m h x m' h' he φ w a Q r ht hN hD hQ
    simp only [evB] at he
    cases hc with
    | @cond co _ a0 b0 _ _ ho ha hb =>
    have hv := aev_ok ht ho
    split at he <;> try contradiction
    · rename_i e1
      rw [e1] at hv
      have : a.eval co = .bool true := by revert hv; generalize a.eval co = u; intro hv; cases hv; rfl
      exact wp_cond_true this (iha N a0 ha m h x m' h' he φ w a Q r ht hN hD hQ)
    · rename_i e1
      rw [e1] at hv
      have : a.eval co = .bool false := by revert hv; generalize a.eval co = u; intro hv; cases hv; rfl
      exact wp_cond_false this (ihb N b0 hb m h x m' h' he φ w a Q r ht hN hD hQ)
  | block i x0 ih =>
    intro N c hc m h x m' h' he φ w a Q r ht hN hD hQ
    simp only [evB] at he
    cases hc with
    | @block _ a0 _ ha =>
    refine wp_block ?_
    split at he
    · rename_i j m1 h1 he1
      split at he
      · rename_i hji
        have hji := Nat.eq_of_beq_eq_true hji
        cases he
        refine ih N a0 ha m h (.exit j) m' h' he1 φ w a _ r ht hN hD fun a1 w1 ψ t1 r1 s1 n1 d1 => ?_
        show (if j = i then Q .normal a1 w1 else Q (.exit j) a1 w1)
        rw [if_pos hji]
        exact hQ a1 w1 ψ t1 r1 s1 n1 d1
      · rename_i hji
        have hji : j ≠ i := fun e => by subst e; rw [Nat.beq_refl] at hji; cases hji
        cases he
        refine ih N a0 ha m h (.exit j) m' h' he1 φ w a _ r ht hN hD fun a1 w1 ψ t1 r1 s1 n1 d1 => ?_
        show (if j = i then Q .normal a1 w1 else Q (.exit j) a1 w1)
        rw [if_neg hji]
        exact hQ a1 w1 ψ t1 r1 s1 n1 d1
    · rename_i hne
      refine ih N a0 ha m h x m' h' he φ w a _ r ht hN hD fun a1 w1 ψ t1 r1 s1 n1 d1 => ?_
      cases x with
      | normal => exact hQ a1 w1 ψ t1 r1 s1 n1 d1
      | exit j => exact absurd he (hne _ _ _)
      | ret => exact hQ a1 w1 ψ t1 r1 s1 n1 d1
  | loop x0 ih =>
    intro N c hc m h x m' h' he φ w a Q r ht hN hD hQ
    simp only [evB] at he
    cases hc with
    | @loop a0 _ ha => exact (loop_at ih ha F m h x m' h' he φ w a Q r ht hN hD hQ).wp
  | exit i =>
    intro N c hc m h x m' h' he φ w a Q r ht hN hD hQ
    cases he
    cases hc with
    | exit i => exact wp_exit (hQ a w φ ht r (.refl _ _ _) hN hD)
  | ret =>
    intro N c hc m h x m' h' he φ w a Q r ht hN hD hQ
    cases he
    cases hc with
    | ret => exact wp_ret (hQ a w φ ht r (.refl _ _ _) hN hD)
  | fail =>
    intro N c hc m h x m' h' he
    cases he

theorem callX_ok {E : Env} (hm : P.follows .mixedOrders = true) (hix : IxOk B P ix) (hdf : DefsOk P E.defs) (hp : PrimsOk B P E) (hf : FsOk P ix E) {ev : Ev} (hev : FnOk B E.laid P ev) (F : Nat) : FnOk B E.laid P (callX E F ev) := by
  intro f args h v h' he φ w argv r hargs
  unfold callX at he
  split at he
  · rename_i p hpf
    exact hp f p hpf args h v h' he φ w argv r hargs
  · split at he <;> try contradiction
    rename_i cf hcf
    obtain ⟨fn, c, hfn, hname, hbody, hcode, hN, hres⟩ := hf f cf hcf
    refine ⟨⟨fn, c, hfn, hname, hbody⟩, fun R hR => calls_of_wp_defers hfn hbody ?_⟩
    have hsz : cf.N ≤ ({ tmps := argv ++ Array.replicate (fn.ntmps - argv.size) undef, defers := [] } : Act).tmps.size := by
      simp; omega
    split at he <;> try contradiction
    rename_i x m' h1 hne hrun
    split at he <;> try contradiction
    rename_i vs hvs
    cases he
    refine evB_ok hm hix hev F cf.body cf.N c hcode _ h _ _ _ hrun φ w _ _ r (enter_ok hargs _) hsz (fun d hd => by cases hd) fun a' w' ψ t1 r1 s1 n1 d1 => ?_
    obtain ⟨v', e1, e2⟩ := results_ok (P := P) r1 t1 hres hvs
    cases x with
    | normal => exact leaves_ok hdf e1 (hR v' w' ψ e2 r1 s1) d1
    | ret => exact leaves_ok hdf e1 (hR v' w' ψ e2 r1 s1) d1
    | exit i => exact (hne _ rfl).elim

theorem evF_ok {E : Env} (hm : P.follows .mixedOrders = true) (hix : IxOk B P ix) (hdf : DefsOk P E.defs) (hp : PrimsOk B P E) (hf : FsOk P ix E) (F : Nat) : ∀ n, FnOk B E.laid P (evF E F n) := by
  intro n
  induction n with
  | zero => intro f args h v h' he; cases he
  | succ n ih => exact callX_ok hm hix hdf hp hf ih F

/-- THE QUICK EVALUATOR IS SOUND. -/
theorem quick_sound {E : Env} (hm : P.follows .mixedOrders = true) (hix : IxOk B P ix) (hdf : DefsOk P E.defs) (hp : PrimsOk B P E) (hf : FsOk P ix E) {n f : Nat} {args : List AV} {h : H} {v : AV} {h' : H}
    (he : (cbN E n f).run args h (fun v h => some (v, h)) = some (v, h')) : ∀ φ w (argv : Array Value), HR B E.laid φ h w → VRs φ args argv.toList →
    ∀ R : Ending → World → Prop, (∀ v' w' ψ, VR ψ v v' → HR B E.laid ψ h' w' → Step φ h w ψ h' w' → R (.returned v') w') → Calls P f argv w R :=
  fun φ w argv r hargs => (evF_ok hm hix hdf hp hf 1000000000 n f args h v h' (cbN_ev he) φ w argv r hargs).2
end
end Go.Clean

namespace Go.Clean
section
variable {B : Base} {L : Laid} {P : Program} {φ ψ : Phi} {h : H} {w : World}

theorem raw_inv {v u : Value} (h : VR φ (.raw v) u) : u = v := by cases h; rfl
theorem raws_inv : ∀ {Z us : List Value}, VRs φ (Z.map .raw) us → us = Z := by
  intro Z
  induction Z with
  | nil => intro us h; cases h; rfl
  | cons z Z ih =>
    intro us h
    cases h with
    | cons h1 h2 => rw [raw_inv h1, ih h2]
theorem vrs_raws : ∀ {Z : List Value}, (∀ v ∈ Z, isCellV v = true) → VRs φ (Z.map .raw) Z := by
  intro Z
  induction Z with
  | nil => intro _; exact .nil
  | cons z Z ih => intro h; exact .cons (.raw (h z (.head _))) (ih fun v hv => h v (.tail _ hv))
theorem cellsOk_raws : ∀ Z : List Value, cellsOk (Z.map .raw) = true := by
  intro Z
  induction Z with
  | nil => rfl
  | cons z Z ih => exact ih
/-- what is known of the cells, for the cells themselves -/
theorem OR.unraw {l : List AV} {Z : List Value} {T : Nat} {row fr : Bool} {d : Nat × Nat} {x : Option Obj} (ho : OR φ (.cells (Z.map .raw) T row fr) d x) (hl : VRs ψ l Z) (hc : cellsOk l = true) (hM : φ.M = ψ.M) : OR ψ (.cells l T row fr) d x := by
  obtain ⟨_, c, fz, hx, h1, h2, h3, h4⟩ := ho
  have hlen : (Z.map AV.raw).length = l.length := by rw [hl.length]; simp
  rw [hlen] at h1 h2 h3
  have e := raws_inv h3
  refine ⟨hc, c, fz, hx, h1, h2, ?_, ?_⟩
  · rw [e]; exact hl
  · rw [← hM]; exact h4

/-- a call that was looked at in a small heap of two blocks, in the great heap -/
theorem merge (r : HR B L φ h w) {b bv c cv : Nat} {d dv : Nat × Nat} {l lv : List AV} {T : Nat} {frv : Bool} (hb : φ b = some (c, d)) (hbv : φ bv = some (cv, dv)) (hne : b ≠ bv)
    (hg : h.m.get b = some (.cells l T true false)) (hgv : h.m.get bv = some (.cells lv T false frv)) (hcl : cellsOk l = true) (hclv : cellsOk lv = true)
    {X Y : List Value} (hX : VRs φ l X) (hY : VRs φ lv Y) {φ0 ψ0 : Phi} {h0 h1 : H} {w' : World} (e0 : ∀ i, φ0 i = if i = 0 then some (c, d) else if i = 1 then some (cv, dv) else none) (eM : φ0.M = φ.M)
    (r1 : HR B L ψ0 h1 w') (s1 : Step φ0 h0 w ψ0 h1 w') {q cq : Nat} {dq : Nat × Nat} (hq : ψ0 q = some (cq, dq)) (hgq : h1.m.get q = some (.cells (Y.map .raw ++ X.map .raw) T true false)) (hg1 : h1.m.get 1 = some (.cells (Y.map .raw) T false frv))
    (hcq : cq = c ∨ w.heap.size ≤ cq) :
    HR B L (put φ h.next cq dq) (newB ⟨h.m.set b .dead, h.next⟩ (.cells (lv ++ l) T true false)) w' ∧ Step φ h w (put φ h.next cq dq) (newB ⟨h.m.set b .dead, h.next⟩ (.cells (lv ++ l) T true false)) w' := by
  have hn := r.none_next
  have hle : Le φ (put φ h.next cq dq) := .put _ _ hn
  obtain ⟨hbn, hBc, hcs⟩ := r.dom b c d hb
  obtain ⟨hbvn, hBcv, hcvs⟩ := r.dom bv cv dv hbv
  have hbne : b ≠ h.next := Nat.ne_of_lt hbn
  have hown0 : ∀ c', Owned φ0 c' → c' = c ∨ c' = cv := by
    rintro c' ⟨i, d', hi⟩
    rw [e0] at hi
    split at hi
    · cases hi; exact .inl rfl
    · split at hi
      · cases hi; exact .inr rfl
      · cases hi
  have hM : ψ0.M = φ.M := s1.le.2.2.symm.trans eM
  have hcase : ∀ b' c' e', put φ h.next cq dq b' = some (c', e') → (b' = h.next ∧ c' = cq ∧ e' = dq) ∨ (b' ≠ h.next ∧ φ b' = some (c', e')) := by
    intro b' c' e' hb'
    by_cases e : b' = h.next
    · subst e; rw [put_same] at hb'; cases hb'; exact .inl ⟨rfl, rfl, rfl⟩
    · rw [put_ne φ _ _ e] at hb'; exact .inr ⟨e, hb'⟩
  have hget : ∀ b', (newB ⟨h.m.set b .dead, h.next⟩ (.cells (lv ++ l) T true false)).m.get b' = if b' = h.next then some (.cells (lv ++ l) T true false) else if b' = b then some .dead else h.m.get b' := by
    intro b'
    simp only [newB]
    rw [Tr.get_set]
    split
    · rfl
    · rw [Tr.get_set]
  refine ⟨⟨?_, ?_, ?_, r1.laid, r1.base, r.marks, ?_⟩, ⟨hle, ?_, ?_, s1.size, ?_, ?_, s1.tape, s1.os, s1.output⟩⟩
  · intro b' c' d' hb'
    show b' < h.next + 1 ∧ _
    rcases hcase b' c' d' hb' with ⟨rfl, rfl, rfl⟩ | ⟨_, hb'⟩
    · have := r1.dom q _ _ hq; exact ⟨Nat.lt_succ_self _, this.2⟩
    · have := r.dom b' c' d' hb'; have := s1.size; omega
  · intro b' c' d' o hb' hg'
    rw [hget] at hg'
    rcases hcase b' c' d' hb' with ⟨e1, rfl, rfl⟩ | ⟨hne', hb'⟩
    · rw [if_pos e1] at hg'
      cases hg'
      have ho := r1.obj q _ _ _ hq hgq
      rw [← List.map_append] at ho
      exact ho.unraw ((hY.append hX).mono hle) (cellsOk_append hclv hcl) hM
    · rw [if_neg hne'] at hg'
      by_cases e : b' = b
      · rw [if_pos e] at hg'; cases hg'; trivial
      · rw [if_neg e] at hg'
        cases hl1 : o.live with
        | false => cases o <;> first | trivial | cases hl1
        | true =>
          by_cases e2 : b' = bv
          · subst e2
            rw [hgv] at hg'
            cases hg'
            rw [hbv] at hb'
            cases hb'
            have h1' : ψ0 1 = some (cv, dv) := s1.le.1 1 _ (by rw [e0]; rfl)
            exact (r1.obj 1 _ _ _ h1' hg1).unraw (hY.mono hle) hclv hM
          · have n1 : c' ≠ c := fun ec => by subst ec; exact e (r.inj b' b c' d' d o _ hb' hb hg' hg hl1 rfl)
            have n2 : c' ≠ cv := fun ec => by subst ec; exact e2 (r.inj b' bv c' d' dv o _ hb' hbv hg' hgv hl1 rfl)
            rw [s1.same c' (r.dom b' c' d' hb').2.2 (fun ho => by rcases hown0 c' ho with e | e <;> contradiction)]
            exact (r.obj b' c' d' o hb' hg').mono hle
  · intro b1 b2 c' d1 d2 o1 o2 h1' h2' g1 g2 l1 l2
    rw [hget] at g1 g2
    have hcqx : ∀ b' d' o', b' ≠ h.next → φ b' = some (cq, d') → (if b' = h.next then some (AObj.cells (lv ++ l) T true false) else if b' = b then some .dead else h.m.get b') = some o' → o'.live = true → False := by
      intro b' d' o' hne' hb' hg' hl'
      rw [if_neg hne'] at hg'
      by_cases e : b' = b
      · rw [if_pos e] at hg'; cases hg'; cases hl'
      · rw [if_neg e] at hg'
        rcases hcq with rfl | hcq
        · exact e (r.inj b' b cq d' d o' _ hb' hb hg' hg hl' rfl)
        · have := (r.dom b' cq d' hb').2.2; omega
    rcases hcase b1 c' d1 h1' with ⟨e1, e2, _⟩ | ⟨n1, h1'⟩
    · rcases hcase b2 c' d2 h2' with ⟨e1', _, _⟩ | ⟨n2, h2'⟩
      · rw [e1, e1']
      · rw [e2] at h2'; exact (hcqx b2 d2 o2 n2 h2' g2 l2).elim
    · rcases hcase b2 c' d2 h2' with ⟨e1', e2', _⟩ | ⟨n2, h2'⟩
      · rw [e2'] at h1'; exact (hcqx b1 d1 o1 n1 h1' g1 l1).elim
      · rw [if_neg n1] at g1
        rw [if_neg n2] at g2
        by_cases e1 : b1 = b
        · rw [if_pos e1] at g1; cases g1; cases l1
        · rw [if_neg e1] at g1
          by_cases e2 : b2 = b
          · rw [if_pos e2] at g2; cases g2; cases l2
          · rw [if_neg e2] at g2
            exact r.inj b1 b2 c' d1 d2 o1 o2 h1' h2' g1 g2 l1 l2
  · intro b' o hg'
    rw [hget] at hg'
    show b' < h.next + 1
    by_cases e : b' = h.next
    · omega
    · rw [if_neg e] at hg'
      by_cases e2 : b' = b
      · omega
      · rw [if_neg e2] at hg'
        have := r.fresh b' o hg'; omega
  · intro b' hb' hnone
    have n1 : b' ≠ h.next := Nat.ne_of_lt hb'
    have n2 : b' ≠ b := fun e => by rw [e, hb] at hnone; cases hnone
    exact ⟨by rw [put_ne φ _ _ n1]; exact hnone, by rw [hget, if_neg n1, if_neg n2]⟩
  · show h.next ≤ h.next + 1; omega
  · rintro c' hc' ⟨b', d', hb'⟩
    rcases hcase b' c' d' hb' with ⟨_, e, _⟩ | ⟨_, hb'⟩
    · rcases hcq with e2 | e2
      · exact ⟨b, d, by rw [hb, e, e2]⟩
      · omega
    · exact ⟨b', d', hb'⟩
  · intro c' hc' hno
    refine s1.same c' hc' fun ho => hno ?_
    rcases hown0 c' ho with rfl | rfl
    · exact ⟨b, d, hb⟩
    · exact ⟨bv, dv, hbv⟩

theorem empty_heap (r : HR B L φ h w) : HR B L ⟨fun _ => none, φ.ρ, φ.M⟩ ⟨.leaf, 0⟩ w := by
  refine ⟨?_, ?_, ?_, r.laid, r.base, r.marks, ?_⟩
  · intro _ _ _ e; cases e
  · intro _ _ _ _ e; cases e
  · intro _ _ _ _ _ _ _ e; cases e
  · intro b o e
    rw [Tr.get_leaf] at e
    cases e
/-- a call without arguments that yields a truth value, looked at in the empty heap: in whatever heap, which stays -/
theorem memo_bool {f : FuncId} {b : Bool} {h' : H}
    (hs : ∀ φ w (argv : Array Value), HR B L φ ⟨.leaf, 0⟩ w → VRs φ [] argv.toList → ∀ R : Ending → World → Prop, (∀ v' w' ψ, VR ψ (.bool b) v' → HR B L ψ h' w' → Step φ ⟨.leaf, 0⟩ w ψ h' w' → R (.returned v') w') → Calls P f argv w R)
    (r : HR B L φ h w) {argv : Array Value} (hv : VRs φ [] argv.toList) {R : Ending → World → Prop} (hR : ∀ v' w' ψ, VR ψ (.bool b) v' → HR B L ψ h w' → Step φ h w ψ h w' → R (.returned v') w') : Calls P f argv w R := by
  have hv0 : argv.toList = [] := by cases hl : argv.toList with
    | nil => rfl
    | cons a l => rw [hl] at hv; cases hv
  refine hs _ w argv (empty_heap r) (by rw [hv0]; exact .nil) R fun v' w' ψ h1 h2 h3 => ?_
  cases h1
  have same : ∀ c, c < w.heap.size → w'.heap[c]? = w.heap[c]? := fun c hc => h3.same c hc (by rintro ⟨b, d, e⟩; cases e)
  refine hR _ w' φ (.bool _) ⟨?_, ?_, r.inj, h2.laid, h2.base, r.marks, r.fresh⟩ ⟨.refl _, fun _ _ e => ⟨e, rfl⟩, Nat.le_refl _, h3.size, fun _ _ ho => ho, fun c hc _ => same c hc, h3.tape, h3.os, h3.output⟩
  · intro b c d hb
    have := r.dom b c d hb
    have := h3.size
    omega
  · intro b c d o hb hg
    rw [same c (r.dom b c d hb).2.2]
    exact r.obj b c d o hb hg
end
end Go.Clean

