/-
  CLEAN, part O4: slices, parts, comparisons, maps.
  CLEAN, part O5: comparisons, maps.
-/
import Derived.Test.YtiecbbepfjiceaaGreatDoorCleanB
import Derived.Laws.StructEq
import Derived.MapKept
set_option linter.unusedVariables false
set_option linter.unusedSimpArgs false
namespace Go.Clean

/-! ### types -/
def kkFs (P : Program) (f : TypeId → Option KK) : List Field → Option (List (Nat × Nat × Bool × KK))
  | [] => some []
  | fd :: fs => if fd.name = "_" then none else match f fd.type, P.underlying fd.type, P.info? fd.type, kkFs P f fs with
    | some k, some d, some i, some r => some ((fd.offset, i.size, aggB d, k) :: r)
    | _, _, _, _ => none
def kkOf (P : Program) : Nat → TypeId → Option KK
  | 0, _ => none
  | n + 1, t => match P.underlying t with
    | some (.int _) => some .int
    | some .string => some .str
    | some .bool => some .bool
    | some (.pointer e) => match P.info? e with
      | some i => if i.size = 0 then none else some .ptr
      | none => none
    | some (.map _ _) => some .map
    | some (.func _ _ _) => some .func
    | some (.interface _) => some .iface
    | some (.slice _) => some .slice
    | some (.struct fs) => if P.stoodInHeld t then none else match kkFs P (kkOf P n) fs.toList with
      | some l => some (.struct l)
      | none => none
    | _ => none
def KK.plain : KK → Bool
  | .int => true
  | .str => true
  | .bool => true
  | _ => false
def KK.key : KK → Bool
  | .struct l => l.all fun x => x.2.2.2.plain
  | k => k.plain

section
variable {B : Base} {L : Laid} {P : Program} {φ : Phi} {h : H} {w : World}

/-! ### parts -/
theorem extract_toList (cs : Array Value) (o n : Nat) : (cs.extract o (o + n)).toList = (cs.toList.drop o).take n := by
  rw [Array.toList_extract]
  show (cs.toList.drop o).take (o + n - o) = _
  rw [Nat.add_sub_cancel_left]

theorem part_ok {t : TypeId} {d : TypeDesc} {i : TypeInfo} (hd : P.underlying t = some d) (hi : P.info? t = some i) {l : List AV} {cs : Array Value} (hl : VRs φ l cs.toList) (hc : cellsOk l = true)
    {off : Nat} {a : AV} (hp : partA l off i.size (aggB d) = some a) (w : World) : ∃ v, (part t cs off).run P w = .ok v w ∧ VR φ a v := by
  unfold partA at hp
  cases hb : aggB d with
  | true =>
    rw [hb] at hp
    simp only at hp
    split at hp <;> try contradiction
    rename_i r hr
    cases hp
    refine ⟨.agg (cs.extract off (off + i.size)), ?_, .agg ?_ (cellsOk_sub hc hr)⟩
    · unfold part
      rw [Sem.run_bind, run_isAgg hd, hb, Result.andThen_ok]
      simp only [if_true]
      rw [Sem.run_bind, run_size hi, Result.andThen_ok]
      rfl
    · rw [extract_toList]; exact hl.sub hr
  | false =>
    rw [hb] at hp
    simp only at hp
    rw [nth_eq] at hp
    obtain ⟨v, hv, hav⟩ := hl.get hp
    refine ⟨v, ?_, hav⟩
    unfold part
    rw [Sem.run_bind, run_isAgg hd, hb, Result.andThen_ok]
    simp only [Bool.false_eq_true, if_false]
    rw [← Array.getElem?_toList, hv]
    rfl

theorem field_ok (r : HR B L φ h w) {xt t : TypeId} {fs : Array Field} {f : Nat} {fd : Field} {d : TypeDesc} {i : TypeInfo} (hx : P.underlying xt = some (.struct fs)) (hf : fs[f]? = some fd) (ht : fd.type = t)
    (hd : P.underlying t = some d) (hi : P.info? t = some i) {l : List AV} {xv : Value} (hv : VR φ (.agg l) xv) {a : AV} (hp : partA l fd.offset i.size (aggB d) = some a) :
    DoneV B L P (Instr.field xt xv f) φ h w a h := by
  subst ht
  cases hv with
  | agg hl hc =>
    obtain ⟨v, hrun, hav⟩ := part_ok (P := P) hd hi hl hc hp w
    refine .pure r ?_ hav
    simp [Instr.field, run_underlying hx, hf, asAgg, hrun]

theorem fieldAddr_run {s t : TypeId} {fs : Array Field} {f : Nat} {fd : Field} {i : TypeInfo} (hx : P.underlying s = some (.struct fs)) (hf : fs[f]? = some fd) (ht : fd.type = t) (hi : P.info? t = some i) (hs : i.size ≠ 0) (b o : Nat) (w : World) :
    (Instr.fieldAt s (.pointer (some ⟨b, o, none⟩)) f).run P w = .ok (.pointer (some ⟨b, o + fd.offset, none⟩)) w := by
  subst ht
  simp [Instr.fieldAt, run_underlying hx, hf, Instr.sureAddr, fieldPlace, sizeOf, typeInfo, hi, hs, add_zero_off]

/-! ### slices -/
theorem bound_ok {v : AV} {x : Value} {y y' n : Nat} (hb : bound v y = some n) (hv : VR φ v x) (hle : y ≤ y') (code : BoundsCode) (w : World) : (Instr.sliceBound x y' code).run P w = .ok n w ∧ n ≤ y := by
  unfold bound at hb
  split at hb <;> try contradiction
  rename_i m hm
  split at hb <;> try contradiction
  rename_i hmy
  cases hb
  obtain ⟨k, rfl⟩ := natOf_eq hm
  have hmy := Nat.le_of_ble_eq_true hmy
  cases hv
  refine ⟨?_, hmy⟩
  unfold Instr.sliceBound
  simp only [asIntOf, Sem.run_bind, Sem.run_pure, Result.andThen_ok]
  rw [if_pos ⟨by omega, by omega⟩]
  rfl

inductive VRo (φ : Phi) : Option AV → Option Value → Prop where
  | none : VRo φ none none
  | some {a : AV} {v : Value} : VR φ a v → VRo φ (some a) (some v)

def orD (mx : Option AV) (m c : Nat) : Nat := match mx with | some _ => m | none => c

theorem bounds_ok {len cap cap' : Nat} {lo hi mx : Option AV} {lv hv mv : Option Value} (h1 : VRo φ lo lv) (h2 : VRo φ hi hv) (h3 : VRo φ mx mv) (hc : cap ≤ cap') {l hh m : Nat} (hb : bounds len cap lo hi mx = some (l, hh, m))
    (isSlice : Bool) (w : World) (hlen : len ≤ cap) :
    (Instr.sliceBounds isSlice len cap' lv hv mv).run P w = .ok (l, hh, orD mx m cap') w ∧ l ≤ hh ∧ hh ≤ m ∧ m ≤ cap ∧ (mx = none → m = cap) := by
  unfold bounds at hb
  split at hb <;> try contradiction
  rename_i m' hm
  split at hb <;> try contradiction
  rename_i h' hh'
  split at hb <;> try contradiction
  rename_i l' hl'
  cases hb
  unfold Instr.sliceBounds
  cases h3 with
  | none =>
    cases hm
    cases h2 with
    | none =>
      cases hh'
      cases h1 with
      | none => cases hl'; exact ⟨by simp [orD, Sem.run_pure], Nat.zero_le _, hlen, Nat.le_refl _, fun _ => rfl⟩
      | some h1 =>
        simp only at hl'
        obtain ⟨a, b⟩ := bound_ok (P := P) hl' h1 (Nat.le_refl _) .sliceB w
        exact ⟨by simp [orD, Sem.run_pure, a], b, hlen, Nat.le_refl _, fun _ => rfl⟩
    | some h2 =>
      simp only at hh'
      obtain ⟨a2, b2⟩ := bound_ok (P := P) hh' h2 hc (if isSlice then .sliceAcap else .sliceAlen) w
      cases h1 with
      | none => cases hl'; exact ⟨by simp [orD, Sem.run_pure, a2], Nat.zero_le _, b2, Nat.le_refl _, fun _ => rfl⟩
      | some h1 =>
        simp only at hl'
        obtain ⟨a, b⟩ := bound_ok (P := P) hl' h1 (Nat.le_refl _) .sliceB w
        exact ⟨by simp [orD, Sem.run_pure, a, a2], b, b2, Nat.le_refl _, fun _ => rfl⟩
  | some h3 =>
    simp only at hm
    obtain ⟨a3, b3⟩ := bound_ok (P := P) hm h3 hc (if isSlice then .slice3Acap else .slice3Alen) w
    cases h2 with
    | none => cases hh'
    | some h2 =>
      simp only at hh'
      obtain ⟨a2, b2⟩ := bound_ok (P := P) hh' h2 (Nat.le_refl _) .slice3B w
      cases h1 with
      | none => cases hl'; exact ⟨by simp [orD, Sem.run_pure, a2, a3], Nat.zero_le _, b2, b3, fun e => by cases e⟩
      | some h1 =>
        simp only at hl'
        obtain ⟨a, b⟩ := bound_ok (P := P) hl' h1 (Nat.le_refl _) .slice3C w
        exact ⟨by simp [orD, Sem.run_pure, a, a2, a3], b, b2, b3, fun e => by cases e⟩

theorem sliceStr_ok (r : HR B L φ h w) {t : TypeId} (ht : P.underlying t = some .string) {x : AV} {xv : Value} {lo hi mx : Option AV} {lv hv mv : Option Value} (hx : VR φ x xv) (h1 : VRo φ lo lv) (h2 : VRo φ hi hv) (h3 : VRo φ mx mv)
    {v : AV} (he : evalSlice .str x lo hi mx = some v) : DoneV B L P (Instr.sliceAt t xv lv hv mv) φ h w v h := by
  unfold evalSlice at he
  split at he <;> try contradiction
  · rename_i s _
    split at he <;> try contradiction
    split at he <;> try contradiction
    rename_i l hh m hb
    split at he <;> try contradiction
    rename_i rr hr
    cases he
    cases h3
    cases hx with
    | @str _ b hbs =>
      have hlen : s.length = b.size := by rw [← hbs]; simp
      rw [hlen] at hb
      obtain ⟨a, b1, b2, b3, _⟩ := bounds_ok (P := P) h1 h2 .none (Nat.le_refl _) hb false w (Nat.le_refl _)
      refine .pure r (v' := .string (b.extract l hh)) ?_ (.str ?_)
      · simp only [Instr.sliceAt, Sem.run_bind, run_underlying ht, Result.andThen_ok, Instr.slice]
        simp [a]
      · rw [(sub_eq hr).1, ← hbs]
        simp [ByteArray.data_extract, List.extract, List.map_take, List.map_drop]

theorem sliceRow_ok (r : HR B L φ h w) {t e : TypeId} {i : TypeInfo} (ht : P.underlying t = some (.slice e)) (hi : P.info? e = some i) {x : AV} {xv : Value} {lo hi' mx : Option AV} {lv hv mv : Option Value} (hx : VR φ x xv) (h1 : VRo φ lo lv) (h2 : VRo φ hi' hv) (h3 : VRo φ mx mv)
    {v : AV} (he : evalSlice (.row i.size) x lo hi' mx = some v) : DoneV B L P (Instr.sliceAt t xv lv hv mv) φ h w v h := by
  have hrun : ∀ (a : Option Addr) (n c l hh m : Nat), (Instr.sliceBounds true n c lv hv mv).run P w = .ok (l, hh, m) w → (Instr.sliceAt t (.slice a n c) lv hv mv).run P w = .ok (.slice (if m = l then a else a.map (·.add (l * i.size))) (hh - l) (m - l)) w := by
    intro a n c l hh m hb
    simp only [Instr.sliceAt, Sem.run_bind, run_underlying ht, Result.andThen_ok, Instr.slice]
    simp [hb, run_size hi]
  unfold evalSlice at he
  split at he <;> try contradiction
  · rename_i size b o n c ex hk
    cases hk
    split at he <;> try contradiction
    rename_i l hh m hb
    cases hx with
    | @slice _ _ _ _ k' c1 _ d hφ g1 g2 g3 g4 =>
      obtain ⟨a, b1, b2, b3, b4⟩ := bounds_ok (P := P) h1 h2 h3 g2 hb true w g1
      have hr1 := hrun (some ⟨c1, d.1 + o, none⟩) n k' _ _ _ a
      have exact_case : ∀ m', orD mx m k' = m' → m' = m → Nat.beq m l = true → DoneV B L P (Instr.sliceAt t (.slice (some ⟨c1, d.1 + o, none⟩) n k') lv hv mv) φ h w (.slice b o (hh - l) (m - l) 0) h := by
        intro m' e1 e2 e3
        have e3 := Nat.eq_of_beq_eq_true e3
        rw [e1, e2, if_pos e3] at hr1
        exact .pure r hr1 (.slice hφ (by omega) (Nat.le_refl _) (fun _ => rfl) fun e => absurd rfl e)
      have exact_case2 : ∀ m', orD mx m k' = m' → m' = m → Nat.beq m l = false → DoneV B L P (Instr.sliceAt t (.slice (some ⟨c1, d.1 + o, none⟩) n k') lv hv mv) φ h w (.slice b (o + l * i.size) (hh - l) (m - l) 0) h := by
        intro m' e1 e2 e3
        have e3 : m ≠ l := fun e => by subst e; rw [Nat.beq_refl] at e3; cases e3
        rw [e1, e2, if_neg e3] at hr1
        simp only [Option.map_some, add_zero_off, Nat.add_assoc] at hr1
        exact .pure r hr1 (.slice hφ (by omega) (Nat.le_refl _) (fun _ => rfl) fun e => absurd rfl e)
      cases h3 with
      | some h3 =>
        simp only [reslice, Nat.beq_refl] at he
        cases hml : Nat.beq m l with
        | true =>
          rw [hml] at he
          cases he
          exact exact_case m rfl rfl hml
        | false =>
          rw [hml] at he
          cases he
          exact exact_case2 m rfl rfl hml
      | none =>
        simp only [reslice] at he
        have hmc := b4 rfl
        cases hex : Nat.beq ex 0 with
        | true =>
          have hex0 := Nat.eq_of_beq_eq_true hex
          have hk := g3 hex0
          rw [hex] at he
          cases hml : Nat.beq m l with
          | true =>
            rw [hml] at he
            cases he
            exact exact_case k' rfl (by omega) hml
          | false =>
            rw [hml] at he
            cases he
            exact exact_case2 k' rfl (by omega) hml
        | false =>
          have hex0 : ex ≠ 0 := fun e => by subst e; cases hex
          rw [hex] at he
          cases hml : Nat.beq m l with
          | true =>
            rw [hml] at he
            cases he
            have e3 := Nat.eq_of_beq_eq_true hml
            have hz : hh - l = 0 := by omega
            rw [hz, show orD none m k' = k' from rfl] at hr1
            by_cases e4 : k' = l
            · rw [if_pos e4] at hr1; exact .pure r hr1 (.eslice _ _)
            · rw [if_neg e4] at hr1; exact .pure r hr1 (.eslice _ _)
          | false =>
            rw [hml] at he
            have e3 : m ≠ l := fun e => by subst e; rw [Nat.beq_refl] at hml; cases hml
            simp only at he
            split at he <;> try contradiction
            rename_i hsz
            have hsz := Nat.eq_of_beq_eq_true hsz
            cases he
            rw [show orD none m k' = k' from rfl] at hr1
            rw [if_neg (by omega)] at hr1
            simp only [Option.map_some, add_zero_off, Nat.add_assoc] at hr1
            refine .pure r hr1 (.slice hφ (by omega) (by omega) (fun e => absurd (hsz.trans e) hex0) fun _ => ?_)
            have g5 := g4 hex0
            rw [hsz] at g5
            have : l * i.size + (k' - l) * i.size = k' * i.size := by rw [← Nat.add_mul]; congr 1; omega
            omega
  · rename_i hk
    split at he <;> try contradiction
    rename_i p hb
    cases he
    cases hx
    obtain ⟨l, hh, m⟩ := p
    obtain ⟨a, b1, b2, b3, b4⟩ := bounds_ok (P := P) h1 h2 h3 (Nat.le_refl 0) hb true w (Nat.le_refl 0)
    have hr1 := hrun none 0 0 _ _ _ a
    have hm0 : orD mx m 0 = 0 := by cases mx <;> simp only [orD]; omega
    rw [hm0] at hr1
    have hl : l = 0 := by omega
    have hh0 : hh = 0 := by omega
    subst hl; subst hh0
    simp only [if_true, Nat.sub_zero] at hr1
    exact .pure r hr1 .nilSlice
  · rename_i hk
    split at he <;> try contradiction
    split at he <;> try contradiction
    rename_i p hb
    cases he
    cases h3
    cases hx with
    | eslice ad k =>
      obtain ⟨l, hh, m⟩ := p
      obtain ⟨a, b1, b2, b3, b4⟩ := bounds_ok (P := P) h1 h2 .none (Nat.zero_le k) hb true w (Nat.le_refl 0)
      have hr1 := hrun (some ad) 0 k _ _ _ a
      have hz : hh - l = 0 := by omega
      rw [hz] at hr1
      by_cases e4 : orD none m k = l
      · rw [if_pos e4] at hr1; exact .pure r hr1 (.eslice _ _)
      · rw [if_neg e4] at hr1; exact .pure r hr1 (.eslice _ _)

theorem sliceArr_ok (r : HR B L φ h w) {t e : TypeId} {n : Nat} {i : TypeInfo} (ht : P.underlying t = some (.array n e)) (hi : P.info? e = some i) {x : AV} {xv : Value} {lo hi' mx : Option AV} {lv hv mv : Option Value} (hx : VR φ x xv) (h1 : VRo φ lo lv) (h2 : VRo φ hi' hv) (h3 : VRo φ mx mv)
    {v : AV} (he : evalSlice (.arr n i.size) x lo hi' mx = some v) : DoneV B L P (Instr.sliceAt t xv lv hv mv) φ h w v h := by
  unfold evalSlice at he
  split at he <;> try contradiction
  rename_i b o hk
  cases hk
  split at he <;> try contradiction
  rename_i l hh m hb
  cases hx with
  | @ptr _ _ c d hφ =>
    obtain ⟨a, b1, b2, b3, b4⟩ := bounds_ok (P := P) h1 h2 h3 (Nat.le_refl n) hb false w (Nat.le_refl n)
    have hm : orD mx m n = m := by
      cases mx with
      | none => exact (b4 rfl).symm
      | some _ => rfl
    rw [hm] at a
    have hrun : (Instr.sliceAt t (.pointer (some ⟨c, d.1 + o, none⟩)) lv hv mv).run P w = .ok (.slice (some (if m = l then ⟨c, d.1 + o, none⟩ else (⟨c, d.1 + o, none⟩ : Addr).add (l * i.size))) (hh - l) (m - l)) w := by
      simp only [Instr.sliceAt, Sem.run_bind, run_underlying ht, Result.andThen_ok]
      simp [Instr.sureAddr, a, run_size hi]
    split at he
    · rename_i hml
      have hml := Nat.eq_of_beq_eq_true hml
      cases he
      rw [if_pos hml] at hrun
      exact .pure r hrun (.slice hφ (by omega) (Nat.le_refl _) (fun _ => rfl) fun e => absurd rfl e)
    · rename_i hml
      have hml : m ≠ l := fun e => by subst e; rw [Nat.beq_refl] at hml; cases hml
      cases he
      rw [if_neg hml, add_zero_off, Nat.add_assoc] at hrun
      exact .pure r hrun (.slice hφ (by omega) (Nat.le_refl _) (fun _ => rfl) fun e => absurd rfl e)

end
end Go.Clean

namespace Go.Clean

section
variable {B : Base} {L : Laid} {P : Program} {φ : Phi} {h : H} {w : World}

theorem str_inj {a b : ByteArray} (h : a.data.toList.map (·.toNat) = b.data.toList.map (·.toNat)) : a = b := by
  apply ByteArray.ext
  apply Array.ext'
  refine List.map_inj_right (f := fun x : UInt8 => x.toNat) ?_ |>.1 h
  intro x y e
  exact UInt8.toNat_inj.1 e

theorem str_beq {a b : ByteArray} : (a == b) = (a.data.toList.map (·.toNat) == b.data.toList.map (·.toNat)) := by
  rw [Bool.eq_iff_iff, MapKept.bytes_beq, beq_iff_eq]
  exact ⟨fun e => by rw [e], str_inj⟩

theorem Addr.beq_off (c x y : Nat) : ((⟨c, x, none⟩ : Addr) == ⟨c, y, none⟩) = Nat.beq x y := by
  rw [Bool.eq_iff_iff, beq_iff_eq, Nat.beq_eq]
  constructor
  · intro e; cases e; rfl
  · intro e; rw [e]

theorem eqFs_ok {F : TypeId → Option KK} {d : Nat} (IH : ∀ t k, F t = some k → ∀ (φ : Phi) a b x y r, VR φ a x → VR φ b y → eqK k a b = some r → ∀ w, (Op.equalIn d t x y).run P w = .ok r w) :
    ∀ (fs : List Field) (l : List (Nat × Nat × Bool × KK)), kkFs P F fs = some l → ∀ (φ : Phi) (la lb : List AV) (xs ys : Array Value) (r : Bool), VRs φ la xs.toList → VRs φ lb ys.toList → cellsOk la = true → cellsOk lb = true →
    eqKs l la lb = some r → ∀ w, (Op.eqFields d xs ys fs).run P w = .ok r w := by
  intro fs
  induction fs with
  | nil =>
    intro l hl φ la lb xs ys r _ _ _ _ he w
    cases hl
    simp only [eqKs] at he
    cases he
    simp [Op.eqFields, Sem.run_pure]
  | cons fd fs ih =>
    intro l hl φ la lb xs ys r hx hy cx cy he w
    simp only [kkFs] at hl
    split at hl
    · cases hl
    · rename_i hname
      split at hl <;> try contradiction
      rename_i k d' i l' hk hd hi hl'
      cases hl
      simp only [eqKs] at he
      split at he <;> try contradiction
      rename_i a b ha hb
      obtain ⟨u, hu, hau⟩ := part_ok (P := P) hd hi hx cx ha w
      obtain ⟨v, hv, hbv⟩ := part_ok (P := P) hd hi hy cy hb w
      unfold Op.eqFields
      rw [if_pos hname]
      rw [Sem.run_bind, hu, Result.andThen_ok, Sem.run_bind, hv, Result.andThen_ok, Sem.run_bind]
      split at he <;> try contradiction
      · rename_i hr
        rw [IH _ _ hk φ a b u v true hau hbv hr w, Result.andThen_ok]
        simp only [Bool.not_true, Bool.false_eq_true, if_false]
        exact ih l' hl' φ la lb xs ys r hx hy cx cy he w
      · rename_i hr
        cases he
        rw [IH _ _ hk φ a b u v false hau hbv hr w, Result.andThen_ok]
        simp [Sem.run_pure]

theorem eqK_ok (e : Nat) : ∀ (n : Nat) (t : TypeId) (k : KK), kkOf P n t = some k → ∀ (φ : Phi) a b x y r, VR φ a x → VR φ b y → eqK k a b = some r → ∀ w, (Op.equalIn (e + n) t x y).run P w = .ok r w := by
  intro n
  induction n with
  | zero => intro t k hk; cases hk
  | succ n ih =>
    intro t k hk φ a b x y r hx hy he w
    rw [← Nat.add_assoc]
    simp only [kkOf] at hk
    split at hk <;> try contradiction
    · rename_i q hu
      cases hk
      unfold eqK at he
      split at he <;> try contradiction
      rename_i k1 n1 k2 n2 _
      split at he <;> try contradiction
      rename_i hkk
      subst hkk
      cases he; cases hx; cases hy
      rw [run_equalIn_int w (e + n) t k1 q n1 n2 hu, iBeq_eq]
    · rename_i hu
      cases hk
      unfold eqK at he
      split at he <;> try contradiction
      cases he
      cases hx with
      | str h1 => cases hy with
        | str h2 => simp only [Op.equalIn, Sem.run_bind, run_underlying hu, Result.andThen_ok, Sem.run_pure]; rw [str_beq, h1, h2, eqNats_eq]
    · rename_i hu
      cases hk
      unfold eqK at he
      split at he <;> try contradiction
      cases he; cases hx; cases hy
      rw [Op.equalIn, Sem.run_bind, run_underlying hu, Result.andThen_ok]; rfl
    · rename_i el hu
      split at hk <;> try contradiction
      rename_i i hi
      split at hk <;> try contradiction
      rename_i hsz
      cases hk
      unfold eqK at he
      split at he <;> try contradiction
      · cases he; cases hx; cases hy; rw [Op.equalIn, Sem.run_bind, run_underlying hu, Result.andThen_ok]; rfl
      · cases he; cases hx; cases hy; rw [Op.equalIn, Sem.run_bind, run_underlying hu, Result.andThen_ok]; rfl
      · cases he; cases hx; cases hy; rw [Op.equalIn, Sem.run_bind, run_underlying hu, Result.andThen_ok]; rfl
      · split at he <;> try contradiction
        rename_i hab
        cases he
        have hab := Nat.eq_of_beq_eq_true hab
        subst hab
        cases hx with
        | ptr h1 => cases hy with
          | ptr h2 =>
            rw [h1] at h2
            cases h2
            simp only [Op.equalIn, Sem.run_bind, run_underlying hu, Result.andThen_ok, run_size hi]
            rw [if_pos hsz]
            unfold sameAddr
            simp only [beq_self_eq_true, if_true, Sem.run_pure]
            rw [Addr.beq_off]
            congr 1
            rw [Bool.eq_iff_iff, Nat.beq_eq, Nat.beq_eq]
            omega
    · rename_i hu
      cases hk
      unfold eqK at he
      split at he <;> try contradiction
      all_goals (cases he; cases hx; cases hy; rw [Op.equalIn, Sem.run_bind, run_underlying hu, Result.andThen_ok]; rfl)
    · rename_i hu
      cases hk
      unfold eqK at he
      split at he <;> try contradiction
      all_goals (cases he; cases hx; cases hy; rw [Op.equalIn, Sem.run_bind, run_underlying hu, Result.andThen_ok]; rfl)
    · rename_i hu
      cases hk
      unfold eqK at he
      split at he <;> try contradiction
      all_goals (cases he; cases hx; cases hy; rw [Op.equalIn, Sem.run_bind, run_underlying hu, Result.andThen_ok]; rfl)
    · rename_i hu
      cases hk
      unfold eqK at he
      split at he <;> try contradiction
      all_goals (cases he; cases hx; cases hy; rw [Op.equalIn, Sem.run_bind, run_underlying hu, Result.andThen_ok]; rfl)
    · rename_i fs hu
      split at hk <;> try contradiction
      rename_i hst
      split at hk <;> try contradiction
      rename_i l hl
      cases hk
      unfold eqK at he
      split at he <;> try contradiction
      rename_i fs' la lb hfs
      cases hfs
      cases hx with
      | agg h1 c1 => cases hy with
        | agg h2 c2 =>
          have hfo : P.fieldsOf t = fs := by simp [Program.fieldsOf, hu]
          rw [run_equalIn_struct w (e + n) t _ _ (by rw [hfo]; exact hu) (by simpa using hst), hfo]
          exact eqFs_ok (fun t k hk φ a b x y r hx hy he w => ih t k hk φ a b x y r hx hy he w) fs.toList l hl φ la lb _ _ r h1 h2 c1 c2 he w

theorem equal_ok {n : Nat} (hn : n ≤ 10000) {t : TypeId} {k : KK} (hk : kkOf P n t = some k) {a b : AV} {x y : Value} {r : Bool} (hx : VR φ a x) (hy : VR φ b y) (he : eqK k a b = some r) (w : World) : (Op.equal t x y).run P w = .ok r w := by
  have := eqK_ok (10000 - n) n t k hk φ a b x y r hx hy he w
  rwa [show 10000 - n + n = 10000 by omega] at this

/-! ### maps -/
theorem plain_checkKey {t : TypeId} {k : KK} {n : Nat} (hk : kkOf P n t = some k) (hp : k.plain = true) (em : Bool) (m : Nat) (x : Value) (w : World) : (Instr.checkKey em (m + 1) t x).run P w = .ok () w := by
  cases n with
  | zero => cases hk
  | succ n =>
    simp only [kkOf] at hk
    split at hk <;> try contradiction
    · rename_i hu; simp only [Instr.checkKey, Sem.run_bind, run_underlying hu, Result.andThen_ok]; cases x <;> rfl
    · rename_i hu; simp only [Instr.checkKey, Sem.run_bind, run_underlying hu, Result.andThen_ok]; cases x <;> rfl
    · rename_i hu; simp only [Instr.checkKey, Sem.run_bind, run_underlying hu, Result.andThen_ok]; cases x <;> rfl
    · split at hk <;> try contradiction
      split at hk <;> try contradiction
      cases hk; cases hp
    · cases hk; cases hp
    · cases hk; cases hp
    · cases hk; cases hp
    · cases hk; cases hp
    · split at hk <;> try contradiction
      split at hk <;> try contradiction
      cases hk; cases hp

theorem checkFs_ok {n : Nat} (em : Bool) (m : Nat) {la : List AV} {xs : Array Value} (hx : VRs φ la xs.toList) (cx : cellsOk la = true) : ∀ (fs : List Field) (l : List (Nat × Nat × Bool × KK)), kkFs P (kkOf P n) fs = some l →
    (l.all fun x => x.2.2.2.plain) = true → keyParts la l = true → ∀ w,
    (forIn fs PUnit.unit fun (f : Field) (_ : PUnit) => if f.name ≠ "_" then (do Instr.checkKey em (m + 1) f.type (← part f.type xs f.offset); pure (ForInStep.yield PUnit.unit) : Sem (ForInStep PUnit)) else pure (ForInStep.yield PUnit.unit)).run P w = .ok PUnit.unit w := by
  intro fs
  induction fs with
  | nil => intro l hl _ _ w; simp [Sem.run_pure]
  | cons fd fs ih =>
    intro l hl hp hc w
    simp only [kkFs] at hl
    split at hl
    · cases hl
    · rename_i hname
      split at hl <;> try contradiction
      rename_i k d' i l' hk hd hi hl'
      cases hl
      simp only [List.all_cons, Bool.and_eq_true] at hp
      simp only [keyParts] at hc
      split at hc <;> try contradiction
      rename_i a ha
      obtain ⟨u, hu, hau⟩ := part_ok (P := P) hd hi hx cx ha w
      simp only [List.forIn_cons, Sem.run_bind]
      rw [if_pos hname]
      simp only [Sem.run_bind, hu, Result.andThen_ok, plain_checkKey hk hp.1, Sem.run_pure]
      exact ih l' hl' hp.2 hc w

theorem checkKey_ok {t : TypeId} {k : KK} {n : Nat} (hk : kkOf P n t = some k) (hp : k.key = true) {a : AV} {x : Value} (hx : VR φ a x) (hc : keyChk k a = true) (em : Bool) (m : Nat) (w : World) : (Instr.checkKey em (m + 2) t x).run P w = .ok () w := by
  cases n with
  | zero => cases hk
  | succ n =>
    have hk0 := hk
    simp only [kkOf] at hk
    split at hk <;> try contradiction
    · cases hk; exact plain_checkKey hk0 rfl em (m + 1) x w
    · cases hk; exact plain_checkKey hk0 rfl em (m + 1) x w
    · cases hk; exact plain_checkKey hk0 rfl em (m + 1) x w
    · split at hk <;> try contradiction
      split at hk <;> try contradiction
      cases hk; cases hp
    · cases hk; cases hp
    · cases hk; cases hp
    · cases hk; cases hp
    · cases hk; cases hp
    · rename_i fs hu
      split at hk <;> try contradiction
      split at hk <;> try contradiction
      rename_i l hl
      cases hk
      unfold keyChk at hc
      split at hc <;> try contradiction
      · rename_i fs' la hfs
        cases hfs
        cases hx with
        | agg h1 c1 =>
          have := checkFs_ok (P := P) em m h1 c1 fs.toList l hl hp hc w
          rw [Instr.checkKey]
          simp only [Sem.run_bind, run_underlying hu, Result.andThen_ok]
          rw [← Array.forIn_toList]
          exact (congrArg (fun r => Result.andThen r _) this).trans rfl
      · rename_i h1 h2
        first
          | exact (h2 _ rfl).elim
          | exact (h1 _ rfl).elim

theorem sameNow_equal {t : TypeId} {d : TypeDesc} (hd : P.underlying t = some d) {x y : Value} {r : Bool} (hs : Instr.sameNow d x y = some r) (w : World) : (Op.equal t x y).run P w = .ok r w := by
  suffices hh : ∀ e, (Op.equalIn (e + 1) t x y).run P w = .ok r w from hh 9999
  intro e
  unfold Instr.sameNow at hs
  split at hs <;> try contradiction
  · split at hs <;> try contradiction
    rename_i hk
    cases hs
    subst hk
    exact run_equalIn_int w e t _ _ _ _ hd
  · cases hs; rw [Op.equalIn, Sem.run_bind, run_underlying hd, Result.andThen_ok]; rfl
  · cases hs; rw [Op.equalIn, Sem.run_bind, run_underlying hd, Result.andThen_ok]; rfl

theorem findNow_asking {t : TypeId} {d : TypeDesc} (hd : P.underlying t = some d) (k : Value) : ∀ (es : List MapEntry) (i : Nat) (r : Option (Nat × Value)), Instr.findNow d k es i = some r → ∀ w, (Instr.findAsking t k es i).run P w = .ok r w := by
  intro es
  induction es with
  | nil => intro i r h w; cases h; rfl
  | cons e es ih =>
    intro i r h w
    simp only [Instr.findNow] at h
    split at h <;> try contradiction
    · rename_i hs
      cases h
      simp [Instr.findAsking, sameNow_equal hd hs w]
    · rename_i hs
      simp only [Instr.findAsking, Sem.run_bind, sameNow_equal hd hs w, Result.andThen_ok, Bool.false_eq_true, if_false]
      exact ih (i + 1) r h w

theorem findKey_asking {t : TypeId} {d : TypeDesc} (hd : P.underlying t = some d) (k : Value) (es : List MapEntry) (w : World) : (Instr.findKey t k es).run P w = (Instr.findAsking t k es).run P w := by
  unfold Instr.findKey
  rw [Sem.run_bind, run_underlying hd, Result.andThen_ok]
  cases h : Instr.findNow d k es 0 with
  | some r => simp only; rw [findNow_asking hd k es 0 r h w]; rfl
  | none => rfl

theorem findK_ok {n : Nat} (hn : n ≤ 10000) {t : TypeId} {k : KK} (hk : kkOf P n t = some k) {a : AV} {x : Value} (hx : VR φ a x) {es : List (AV × AV)} {ms : List MapEntry} (he : ERs φ es ms) (w : World) :
    ∀ (i : Nat), (findK k a es = some none → (Instr.findAsking t x ms i).run P w = .ok none w) ∧
      (∀ v, findK k a es = some (some v) → ∃ j u, (Instr.findAsking t x ms i).run P w = .ok (some (j, u)) w ∧ VR φ v u) := by
  induction he with
  | nil => intro i; exact ⟨fun _ => rfl, fun v h => by cases h⟩
  | @cons ka va e l r h1 h2 h3 ih =>
    intro i
    simp only [findK, Instr.findAsking, Sem.run_bind]
    split
    · rename_i hr
      rw [equal_ok hn hk hx h1 hr w, Result.andThen_ok]
      refine ⟨fun h => (by cases h), fun v h => ?_⟩
      cases h
      exact ⟨i, e.val, rfl, h2⟩
    · rename_i hr
      rw [equal_ok hn hk hx h1 hr w, Result.andThen_ok]
      exact ih (i + 1)
    · exact ⟨fun h => (by cases h), fun v h => by cases h⟩

theorem lookup_ok (r : HR B L φ h w) {n : Nat} (hn : n ≤ 10000) {xt key elem : TypeId} {k : KK} {i : TypeInfo} {z : Value} (hxt : P.underlying xt = some (.map key elem)) (hk : kkOf P n key = some k) (hp : k.key = true)
    (hi : P.info? elem = some i) (hz : i.zero = some z) {zero : AV} (hzero : ∀ φ, VR φ zero z)
    {xa ia : AV} {x ix : Value} (hx : VR φ xa x) (hix : VR φ ia ix) {es : List (AV × AV)} (hes : mapAt h xa = some es)
    (hc : keyChk k ia = true) {res : Option AV} (hf : findK k ia es = some res) (ok : Bool) :
    DoneV B L P (Instr.lookup xt x ix ok) φ h w (match res with | some v => (match ok with | true => .tuple [v, .bool true] | false => v) | none => (match ok with | true => .tuple [zero, .bool false] | false => zero)) h := by
  obtain ⟨ms, hms, hform⟩ : ∃ (ms : Array MapEntry), ERs φ es ms.toList ∧ ((x = .map none ∧ ms = #[]) ∨ ∃ c clk, x = .map (some c) ∧ w.heap[c]? = some (.map ms clk)) := by
    unfold mapAt at hes
    cases xa <;> try (cases hes; done)
    · cases hes; cases hx; exact ⟨#[], .nil, .inl ⟨rfl, rfl⟩⟩
    · rename_i b
      simp only at hes
      split at hes <;> try contradiction
      rename_i es' hg
      cases hes
      cases hx with
      | @map _ c d hb =>
        obtain ⟨ms, clock, hw, he⟩ := r.obj _ c d _ hb hg
        exact ⟨ms, he, .inr ⟨c, clock, rfl, hw⟩⟩
  obtain ⟨d, hd⟩ : ∃ d, P.underlying key = some d := by
    cases n with
    | zero => cases hk
    | succ n =>
      cases hu : P.underlying key with
      | none => simp [kkOf, hu] at hk
      | some d => exact ⟨d, rfl⟩
  have hck := checkKey_ok (P := P) hk hp hix hc ms.isEmpty 9998 w
  have hfk := findK_ok (P := P) hn hk hix hms w 0
  have hfa := findKey_asking (P := P) hd ix ms.toList w
  have hrun : (Instr.lookup xt x ix ok).run P w = ((Instr.findAsking key ix ms.toList).run P w).andThen fun o w' => (match o with
      | some (_, v) => (.ok (if ok then .tuple #[v, .bool true] else v) w' : Result Value)
      | none => .ok (if ok then .tuple #[z, .bool false] else z) w') := by
    have tail : ∀ (w0 : World), w0 = w → Sem.run P (do
        Instr.checkKey ms.isEmpty 10000 key ix
        let (v, ok') ← match ← Instr.findKey key ix ms.toList with
          | some (_, v) => pure (v, true)
          | none => pure (← zeroValue elem, false)
        pure (if ok then .tuple #[v, .bool ok'] else v) : Sem Value) w0 = ((Instr.findAsking key ix ms.toList).run P w).andThen fun o w' => (match o with
          | some (_, v) => (.ok (if ok then .tuple #[v, .bool true] else v) w' : Result Value)
          | none => .ok (if ok then .tuple #[z, .bool false] else z) w') := by
      intro w0 e
      subst e
      rw [Sem.run_bind, hck, Result.andThen_ok, Sem.run_bind, hfa]
      cases hq : (Instr.findAsking key ix ms.toList).run P w0 with
      | ok o w' =>
        simp only [Result.andThen_ok]
        cases o with
        | none => simp [zeroValue, typeInfo, hi, hz]
        | some p => simp
      | halt a b => rfl
    unfold Instr.lookup
    rw [Sem.run_bind, run_underlying hxt, Result.andThen_ok]
    rcases hform with ⟨rfl, rfl⟩ | ⟨c, clk, rfl, hw⟩
    · simp only
      rw [Sem.run_bind, Sem.run_pure, Result.andThen_ok]
      exact tail w rfl
    · simp only
      rw [Sem.run_bind, run_getObj_map _ _ _ _ hw, Result.andThen_ok]
      simp only
      rw [Sem.run_bind, Sem.run_pure, Result.andThen_ok]
      exact tail w rfl
  cases res with
  | none =>
    rw [hfk.1 hf, Result.andThen_ok] at hrun
    refine .pure r hrun ?_
    cases ok with
    | true => exact .tuple (.cons (hzero φ) (.cons (.bool _) .nil))
    | false => exact hzero φ
  | some v =>
    obtain ⟨j, u, hq, hu⟩ := hfk.2 v hf
    rw [hq, Result.andThen_ok] at hrun
    refine .pure r hrun ?_
    cases ok with
    | true => exact .tuple (.cons hu (.cons (.bool _) .nil))
    | false => exact hu

theorem same1_ok {a b : AV} {x y : Value} (hx : VR φ a x) (hy : VR φ b y) (hs : sameA1 a b = true) (n : Nat) : Instr.sameBits n x y = true := by
  unfold sameA1 at hs
  split at hs <;> try contradiction
  · split at hs <;> try contradiction
    rename_i hk
    subst hk
    cases hx; cases hy
    rw [iBeq_eq] at hs
    simp [Instr.sameBits, eq_of_beq hs]
  · cases hx with
    | str h1 => cases hy with
      | str h2 =>
        rw [eqNats_eq] at hs
        have := eq_of_beq hs
        have e := str_inj (h1.trans (this.trans h2.symm))
        subst e
        simp [Instr.sameBits, MapKept.bytes_beq]
  · cases hx; cases hy
    simp [Instr.sameBits, eq_of_beq hs]

theorem sames_ok (n : Nat) : ∀ {la lb : List AV} {xs ys : List Value}, VRs φ la xs → VRs φ lb ys → sameAs la lb = true → xs.length = ys.length ∧ ((xs.zip ys).all fun (x, y) => Instr.sameBits n x y) = true := by
  intro la
  induction la with
  | nil =>
    intro lb xs ys hx hy hs
    cases lb with
    | nil => cases hx; cases hy; exact ⟨rfl, rfl⟩
    | cons _ _ => cases hs
  | cons a la ih =>
    intro lb xs ys hx hy hs
    cases lb with
    | nil => cases hs
    | cons b lb =>
      simp only [sameAs] at hs
      split at hs <;> try contradiction
      rename_i h1
      cases hx with
      | cons hx hxs => cases hy with
        | cons hy hys =>
          obtain ⟨e1, e2⟩ := ih hxs hys hs
          refine ⟨by simp [e1], ?_⟩
          simp only [List.zip_cons_cons, List.all_cons, Bool.and_eq_true]
          exact ⟨same1_ok hx hy h1 n, e2⟩

theorem same_ok {a b : AV} {x y : Value} (hx : VR φ a x) (hy : VR φ b y) (hs : sameA a b = true) (n : Nat) : Instr.sameBits (n + 1) x y = true := by
  unfold sameA at hs
  split at hs
  · cases hx with
    | agg h1 _ => cases hy with
      | agg h2 _ =>
        obtain ⟨e1, e2⟩ := sames_ok n h1 h2 hs
        simp only [Instr.sameBits, Bool.and_eq_true]
        exact ⟨by simpa using e1, e2⟩
  · exact same1_ok hx hy hs (n + 1)

theorem updK_ok {n : Nat} (hn : n ≤ 10000) {t : TypeId} {k : KK} (hk : kkOf P n t = some k) {a v : AV} {x u : Value} (hx : VR φ a x) (hv : VR φ v u) {es : List (AV × AV)} {ms : List MapEntry} (he : ERs φ es ms) (w : World) :
    ∀ (i : Nat) (es' : List (AV × AV)), updK k a v es = some es' →
      ((Instr.findAsking t x ms i).run P w = .ok none w ∧ ∀ e : MapEntry, e.key = x → e.val = u → ERs φ es' (ms ++ [e])) ∨
      ∃ j e, ms[j]? = some e ∧ (Instr.findAsking t x ms i).run P w = .ok (some (i + j, e.val)) w ∧ Instr.sameBits 10000 e.key x = true ∧ ERs φ es' (ms.modify j fun e => { e with key := x, val := u }) := by
  induction he with
  | nil =>
    intro i es' hu
    cases hu
    refine .inl ⟨rfl, fun e e1 e2 => ?_⟩
    exact .cons (by rw [e1]; exact hx) (by rw [e2]; exact hv) .nil
  | @cons ka va e l r h1 h2 h3 ih =>
    intro i es' hu
    simp only [updK] at hu
    split at hu <;> try contradiction
    · rename_i hr
      split at hu <;> try contradiction
      rename_i hs
      cases hu
      refine .inr ⟨0, e, rfl, ?_, same_ok h1 hx hs 9999, .cons hx hv h3⟩
      simp only [Instr.findAsking, Sem.run_bind]
      rw [equal_ok hn hk hx h1 hr w, Result.andThen_ok]
      rfl
    · rename_i hr
      split at hu <;> try contradiction
      rename_i es1 hes1
      cases hu
      rcases ih (i + 1) es1 hes1 with ⟨a1, a2⟩ | ⟨j, e', b1, b2, b3, b4⟩
      · refine .inl ⟨?_, fun e e1 e2 => .cons h1 h2 (a2 e e1 e2)⟩
        simp only [Instr.findAsking, Sem.run_bind]
        rw [equal_ok hn hk hx h1 hr w, Result.andThen_ok]
        exact a1
      · refine .inr ⟨j + 1, e', by simpa using b1, ?_, b3, .cons h1 h2 b4⟩
        simp only [Instr.findAsking, Sem.run_bind]
        rw [equal_ok hn hk hx h1 hr w, Result.andThen_ok]
        rw [show i + (j + 1) = i + 1 + j by omega]
        exact b2

theorem mapUpdate_ok (r : HR B L φ h w) {n : Nat} (hn : n ≤ 10000) {mt key elem : TypeId} {k : KK} (hmt : P.underlying mt = some (.map key elem)) (hk : kkOf P n key = some k) (hp : k.key = true)
    {b : Nat} {ka va : AV} {m kx vx : Value} (hm : VR φ (.map b) m) (hka : VR φ ka kx) (hva : VR φ va vx) {es es' : List (AV × AV)} (hg : h.m.get b = some (.map es)) (hc : keyChk k ka = true) (hu : updK k ka va es = some es') :
    DoneU B L P (Instr.mapUpdate mt m kx vx) φ h w ⟨h.m.set b (.map es'), h.next⟩ := by
  cases hm with
  | @map _ c d hb =>
    obtain ⟨ms, clock, hw, he⟩ := r.obj _ c d _ hb hg
    obtain ⟨dd, hd⟩ : ∃ d, P.underlying key = some d := by
      cases n with
      | zero => cases hk
      | succ n =>
        cases hu : P.underlying key with
        | none => simp [kkOf, hu] at hk
        | some d => exact ⟨d, rfl⟩
    have hck := checkKey_ok (P := P) hk hp hka hc false 9998 w
    have hfa := findKey_asking (P := P) hd kx ms.toList w
    have hset : ∀ o : Obj, (setObj c o).run P w = .ok () { w with heap := w.heap.setIfInBounds c o } := by
      intro o
      simp only [setObj, Sem.run, hw]
    have fin : ∀ (ms' : Array MapEntry) (clock' : Nat), ERs φ es' ms'.toList → (Instr.mapUpdate mt (.map (some c)) kx vx).run P w = .ok () { w with heap := w.heap.setIfInBounds c (.map ms' clock') } → DoneU B L P (Instr.mapUpdate mt (.map (some c)) kx vx) φ h w ⟨h.m.set b (.map es'), h.next⟩ := by
      intro ms' clock' her hrun
      obtain ⟨t1, t2⟩ := r.turn (o' := .map es') (x := .map ms' clock') hb hg rfl ⟨ms', clock', rfl, her⟩
      exact ⟨_, φ, hrun, t1, t2⟩
    have hhead : (Instr.mapUpdate mt (.map (some c)) kx vx).run P w = ((Instr.findAsking key kx ms.toList).run P w).andThen fun o w' => Sem.run P (match o with
        | some (i, _) => (do
          let key ← Instr.keyThatStays (((ms[i]?).map (·.key)).getD kx) kx
          setObj c (.map (ms.modify i fun e => { e with key, val := vx }) clock))
        | none => setObj c (.map (ms.push { key := kx, val := vx, born := clock }) (clock + 1))) w' := by
      unfold Instr.mapUpdate
      rw [Sem.run_bind, run_underlying hmt, Result.andThen_ok]
      simp only
      rw [Sem.run_bind, run_getObj_map _ _ _ _ hw, Result.andThen_ok]
      simp only
      rw [Sem.run_bind, hck, Result.andThen_ok, Sem.run_bind, hfa]
      rfl
    rcases updK_ok (P := P) hn hk hka hva he w 0 es' hu with ⟨a1, a2⟩ | ⟨j, e, b1, b2, b3, b4⟩
    · refine fin (ms.push { key := kx, val := vx, born := clock }) (clock + 1) ?_ ?_
      · rw [Array.toList_push]; exact a2 _ rfl rfl
      · rw [hhead, a1, Result.andThen_ok]; exact hset _
    · refine fin (ms.modify j fun e => { e with key := kx, val := vx }) clock ?_ ?_
      · rw [Array.toList_modify]; exact b4
      · rw [hhead, b2, Result.andThen_ok]
        simp only [Nat.zero_add]
        have hkey : (Instr.keyThatStays (((ms[j]?).map (·.key)).getD kx) kx).run P w = .ok kx w := by
          have e1 : ms[j]? = some e := by simpa using b1
          rw [e1]
          unfold Instr.keyThatStays
          simp only [Option.map_some, Option.getD_some, b3, if_true]
          rfl
        rw [Sem.run_bind, hkey, Result.andThen_ok]
        exact hset _

end
end Go.Clean

