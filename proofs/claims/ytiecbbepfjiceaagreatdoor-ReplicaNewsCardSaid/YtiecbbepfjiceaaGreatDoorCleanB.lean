/-
  CLEAN, part O: the evaluator's operations are the model's: memory.
  CLEAN, part O2: the evaluator's operations are the model's: what makes new blocks.
  CLEAN, part O3: append, copy, clear, strings and bytes.
-/
import Derived.Test.YtiecbbepfjiceaaGreatDoorCleanA
import Derived.Laws.Cells
import Derived.ChangeKeysEq
import Derived.Deep.AppendSrc
import Derived.Deep.Upon
import Derived.Laws.MakeOwn
import Derived.Great.BuildSlice
import Derived.Laws.Tables
import Derived.Lib.UnsafeStr
import Derived.Lib.Bytealg
import Derived.Laws.BytesString
import Derived.Laws.IdiomStrings
set_option linter.unusedVariables false
set_option linter.unusedSimpArgs false
namespace Go.Clean

def DoneV (B : Base) (L : Laid) (P : Program) (s : Sem Value) (φ : Phi) (h : H) (w : World) (v : AV) (h' : H) : Prop :=
  ∃ v' w' ψ, s.run P w = .ok v' w' ∧ VR ψ v v' ∧ HR B L ψ h' w' ∧ Step φ h w ψ h' w'
def DoneU (B : Base) (L : Laid) (P : Program) (s : Sem Unit) (φ : Phi) (h : H) (w : World) (h' : H) : Prop :=
  ∃ w' ψ, s.run P w = .ok () w' ∧ HR B L ψ h' w' ∧ Step φ h w ψ h' w'

section
variable {B : Base} {L : Laid} {P : Program} {φ : Phi} {h : H} {w : World}

theorem DoneV.pure (r : HR B L φ h w) {s : Sem Value} {v : AV} {v' : Value} (hs : s.run P w = .ok v' w) (hv : VR φ v v') : DoneV B L P s φ h w v h :=
  ⟨v', w, φ, hs, hv, r, .refl _ _ _⟩

/-- facts on a type -/
def aggB : TypeDesc → Bool
  | .struct _ => true
  | .array _ _ => true
  | _ => false

theorem run_isAgg {t : TypeId} {d : TypeDesc} (hd : P.underlying t = some d) (w : World) : (isAgg t).run P w = .ok (aggB d) w := by
  unfold isAgg
  rw [Sem.run_bind, run_underlying hd, Result.andThen_ok]
  cases d <;> rfl
theorem run_size {t : TypeId} {i : TypeInfo} (hi : P.info? t = some i) (w : World) : (sizeOf t).run P w = .ok i.size w := by
  rw [run_sizeOf w hi]; simp [Program.cellsOf, hi]

theorem cell_of {c : Nat} {cs : Array Value} {T : TypeId} {fz : Nat × Nat} {i : Nat} {v : Value} (hw : w.heap[c]? = some (.cells cs T fz)) (hv : cs[i]? = some v) :
    w.cell? ⟨c, i, none⟩ = some v := by simp [World.cell?, hw, hv]

theorem vrs_cell {l : List AV} {cs : Array Value} {d i : Nat} {a : AV} (hr : VRs φ l ((cs.toList.drop d).take l.length)) (ha : l[i]? = some a) :
    ∃ v, cs[d + i]? = some v ∧ VR φ a v := by
  obtain ⟨v, hv, hav⟩ := hr.get ha
  refine ⟨v, ?_, hav⟩
  rw [List.getElem?_take] at hv
  split at hv
  · rw [List.getElem?_drop] at hv; simpa using hv
  · cases hv

/-- cells read -/
theorem run_cells {c d : Nat} {cs : Array Value} {T : TypeId} {fz : Nat × Nat} {l r : List AV} {o n : Nat} (hw : w.heap[c]? = some (.cells cs T fz))
    (hr : VRs φ l ((cs.toList.drop d).take l.length)) (hs : sub l o n = some r) :
    ∃ vs : List Value, (loadCells ⟨c, d + o, none⟩ n).run P w = .ok vs.toArray w ∧ VRs φ r vs := by
  have hsub := hr.sub hs
  generalize hvs : ((((cs.toList.drop d).take l.length).drop o).take n) = vs at hsub
  have hlen : vs.length = n := by rw [← hsub.length]; exact sub_length hs
  refine ⟨vs, ?_, hsub⟩
  have := run_loadCells_list (P := P) w ⟨c, d + o, none⟩ vs (fun j v hj => ?_)
  · rw [hlen] at this; exact this
  · have hj' : cs[d + o + j]? = some v := by
      rw [← hvs] at hj
      rw [List.getElem?_take] at hj
      split at hj
      · rw [List.getElem?_drop, List.getElem?_take] at hj
        split at hj
        · rw [List.getElem?_drop] at hj
          rw [Array.getElem?_toList] at hj
          rw [Nat.add_assoc]; exact hj
        · cases hj
      · cases hj
    have hadd : (⟨c, d + o, none⟩ : Addr).add j = ⟨c, d + o + j, none⟩ := by
      unfold Addr.add; split
      · rename_i hj0; subst hj0; rfl
      · rfl
    rw [hadd]
    exact cell_of hw hj'

theorem load_ok (r : HR B L φ h w) {t : TypeId} {d : TypeDesc} {i : TypeInfo} {agg : Bool} (hd : P.underlying t = some d) (hi : P.info? t = some i) (ha : aggB d = agg)
    {b o : Nat} {x : Value} (hx : VR φ (.ptr b o) x) {l : List AV} {T : Nat} {row fr : Bool} {v : AV} (hg : h.m.get b = some (.cells l T row fr))
    (hv : partA l o i.size agg = some v) : DoneV B L P (Instr.loadAt t x) φ h w v h := by
  cases hx with
  | @ptr _ _ c d' hb =>
    obtain ⟨hc, cs, fz, hw, h1, h2, h3, h4⟩ := r.obj b c d' _ hb hg
    have hrun : (Instr.loadAt t (.pointer (some ⟨c, d'.1 + o, none⟩))).run P w = (loadVar t ⟨c, d'.1 + o, none⟩).run P w := rfl
    unfold partA at hv
    cases agg with
    | true =>
      simp only at hv
      split at hv <;> try contradiction
      rename_i q hq
      cases hv
      obtain ⟨vs, hrun2, hvs⟩ := run_cells (P := P) hw h3 hq
      refine .pure r (v' := .agg vs.toArray) ?_ (.agg (by simpa using hvs) (cellsOk_sub hc hq))
      rw [hrun]
      unfold loadVar
      rw [Sem.run_bind, run_isAgg hd, ha, Result.andThen_ok]
      simp only [if_true]
      rw [Sem.run_bind, run_size hi, Result.andThen_ok, Sem.run_bind, hrun2]
      rfl
    | false =>
      simp only at hv
      rw [nth_eq] at hv
      obtain ⟨u, hu, hvu⟩ := vrs_cell h3 hv
      refine .pure r (v' := u) ?_ hvu
      rw [hrun]
      unfold loadVar
      rw [Sem.run_bind, run_isAgg hd, ha, Result.andThen_ok]
      simp only [Bool.false_eq_true, if_false]
      rw [run_load, cell_of hw hu]

theorem loadG_ok (r : HR B L φ h w) {t : TypeId} {d : TypeDesc} (hd : P.underlying t = some d) (ha : aggB d = false)
    {g o : Nat} {x : Value} (hx : VR φ (.gptr g o) x) {v : AV} (hv : L g o = some v) : DoneV B L P (Instr.loadAt t x) φ h w v h := by
  cases hx with
  | gptr =>
    obtain ⟨_, _, y, hy, hvr⟩ := r.laid g o v hv
    refine .pure r (v' := y) ?_ (hvr φ)
    show (loadVar t ⟨g, o, none⟩).run P w = _
    unfold loadVar
    rw [Sem.run_bind, run_isAgg hd, ha, Result.andThen_ok]
    simp only [Bool.false_eq_true, if_false]
    rw [run_load, hy]

/-! ### stores -/
def stores (cur : Array Value) (p : Nat) : List Value → Array Value
  | [] => cur
  | v :: vs => stores (cur.setIfInBounds p v) (p + 1) vs
theorem stores_size (vs : List Value) : ∀ (cur : Array Value) (p : Nat), (stores cur p vs).size = cur.size := by
  induction vs with
  | nil => intro cur p; rfl
  | cons v vs ih => intro cur p; simp only [stores]; rw [ih]; simp
theorem stores_toList (vs : List Value) : ∀ (cur : Array Value) (p : Nat), p + vs.length ≤ cur.size →
    (stores cur p vs).toList = cur.toList.take p ++ vs ++ cur.toList.drop (p + vs.length) := by
  induction vs with
  | nil => intro cur p _; simp [stores]
  | cons v vs ih =>
    intro cur p hp
    simp only [stores, List.length_cons] at hp ⊢
    rw [ih _ _ (by simp; omega)]
    have hlt : p < cur.toList.length := by simp; omega
    simp only [Array.toList_setIfInBounds]
    rw [List.take_set, List.drop_set_of_lt (by omega)]
    have e : (cur.toList.take (p + 1)).set p v = cur.toList.take p ++ [v] := by
      rw [List.take_succ_eq_append_getElem hlt]
      rw [List.set_append_right _ _ (by simp; omega)]
      have : min p cur.size = p := by omega
      simp [this]
    rw [e]
    simp [Nat.add_assoc, Nat.add_comm 1]

theorem setCell_at {c p : Nat} {cur : Array Value} {T : TypeId} {fz : Nat × Nat} (v : Value) (hw : w.heap[c]? = some (.cells cur T fz)) :
    w.setCell ⟨c, p, none⟩ v = { w with heap := w.heap.setIfInBounds c (.cells (cur.setIfInBounds p v) T fz) } := by
  unfold World.setCell
  congr 1
  apply Array.ext_getElem?
  intro j
  rw [Array.getElem?_modify, Array.getElem?_setIfInBounds]
  have hc : c < w.heap.size := by
    rcases Nat.lt_or_ge c w.heap.size with h | h
    · exact h
    · rw [Array.getElem?_eq_none h] at hw; cases hw
  by_cases e : c = j
  · subst e
    rw [if_pos rfl, if_pos rfl, if_pos hc, hw]
    rfl
  · simp [e]

theorem run_stores {c d : Nat} {T : TypeId} {fz : Nat × Nat} : ∀ (vs : List Value) (i : Nat) (cur : Array Value) (w : World), w.heap[c]? = some (.cells cur T fz) → d + i + vs.length ≤ cur.size →
    (∀ v ∈ vs, v.oneCell' = true) → (∀ j, d + i ≤ j → j < d + i + vs.length → ¬ (fz.1 ≤ j ∧ j < fz.2)) →
    (storeCells ⟨c, d, none⟩ vs i).run P w = .ok () { w with heap := w.heap.setIfInBounds c (.cells (stores cur (d + i) vs) T fz) } := by
  intro vs
  induction vs with
  | nil =>
    intro i cur w hw _ _ _
    simp only [storeCells, stores]
    have : w.heap.setIfInBounds c (.cells cur T fz) = w.heap := by
      apply Array.ext_getElem?
      intro j
      rw [Array.getElem?_setIfInBounds]
      split
      · rename_i e; subst e; split
        · exact hw.symm
        · rename_i hn; simp [Array.getElem?_eq_none (Nat.le_of_not_lt hn)]
      · rfl
    rw [this]; rfl
  | cons v vs ih =>
    intro i cur w hw hlen hone hfr
    simp only [List.length_cons] at hlen hfr
    have hadd : (⟨c, d, none⟩ : Addr).add i = ⟨c, d + i, none⟩ := by
      unfold Addr.add; split
      · rename_i hj0; subst hj0; rfl
      · rfl
    have hi : d + i < cur.size := by omega
    have hcell : w.cell? ⟨c, d + i, none⟩ = some cur[d + i] := cell_of hw (by simp [hi])
    have hnf : w.frozen? ⟨c, d + i, none⟩ = false := by
      simp only [World.frozen?, hw]
      have := hfr (d + i) (by omega) (by omega)
      rw [Bool.eq_false_iff]
      intro he
      simp at he
      exact this he
    simp only [storeCells]
    rw [Sem.run_bind, hadd, run_store P w _ v _ (hone v (.head _)), hcell]
    simp only [hnf, Bool.false_eq_true, if_false, Result.andThen_ok]
    rw [setCell_at v hw]
    have hc : c < w.heap.size := by
      rcases Nat.lt_or_ge c w.heap.size with h | h
      · exact h
      · rw [Array.getElem?_eq_none h] at hw; cases hw
    have h2 := ih (i + 1) (cur.setIfInBounds (d + i) v) { w with heap := w.heap.setIfInBounds c (.cells (cur.setIfInBounds (d + i) v) T fz) } (by simp [hc])
      (by simp; omega) (fun u hu => hone u (.tail _ hu)) (fun j h1 h2 => hfr j (by omega) (by omega))
    rw [h2]
    simp only [stores, ← Nat.add_assoc]
    congr 2
    apply Array.ext_getElem?
    intro j
    simp only [Array.getElem?_setIfInBounds, Array.size_setIfInBounds]
    split <;> simp_all

theorem oneCell_of {vs : List AV} {r : List Value} (hr : VRs φ vs r) (hc : cellsOk vs = true) : ∀ v ∈ r, v.oneCell' = true := by
  induction vs generalizing r with
  | nil => cases hr; simp
  | cons a vs ih =>
    cases hr with
    | cons ha hr =>
      intro v hv
      have hm := cellsOk_mem hc
      cases hv with
      | head =>
        have h1 := ha.isCell
        rw [hm a (.head _)] at h1
        have : ∀ x : Value, isCellV x = true → x.oneCell' = true := by intro x hx; cases x <;> first | rfl | exact hx
        exact this _ h1
      | tail _ hv => exact ih hr (cellsOk_of fun b hb => hm b (.tail _ hb)) v hv

/-- cells written: the block's relation behind it -/
theorem set_ok (r : HR B L φ h w) {b c o : Nat} {d : Nat × Nat} (hb : φ b = some (c, d)) {vs : List AV} {xs : List Value} (hvs : VRs φ vs xs) (hone : cellsOk vs = true) {h' : H}
    (hs : setCells h b o vs = some h') : DoneU B L P (storeCells ⟨c, d.1 + o, none⟩ xs) φ h w h' := by
  unfold setCells at hs
  split at hs <;> try contradiction
  rename_i l T row hg
  split at hs <;> try contradiction
  rename_i l' hl'
  cases hs
  obtain ⟨hc, cs, fz, hw, h1, h2, h3, h4⟩ := r.obj b c d _ hb hg
  obtain ⟨hl'', hlen⟩ := splice_eq hl'
  have hxl := hvs.length
  have hfr : ∀ j, d.1 + o + 0 ≤ j → j < d.1 + o + 0 + xs.length → ¬ (fz.1 ≤ j ∧ j < fz.2) := by
    intro j hj1 hj2
    exact (h4.1 rfl).1 j (by omega) (by omega)
  have hrun := run_stores (P := P) xs 0 cs w hw (by omega) (oneCell_of hvs hone) hfr
  simp only [Nat.add_zero] at hrun
  have hsz := stores_size xs cs (d.1 + o)
  have htl := stores_toList xs cs (d.1 + o) (by omega)
  have hnew : OR φ (.cells l' T row false) d (some (.cells (stores cs (d.1 + o) xs) T fz)) := by
    refine ⟨?_, _, fz, rfl, ?_, ?_, ?_, ?_⟩
    · rw [hl'']
      exact cellsOk_append (cellsOk_append (cellsOk_take hc _) hone) (cellsOk_drop hc _)
    · rw [hsz, hl'']; simp; omega
    · refine ⟨by rw [hsz]; exact h2.1, fun e => ?_⟩; obtain ⟨e1, e2⟩ := h2.2 e; refine ⟨e1, ?_⟩; rw [hsz, hl'']; simp; omega
    · rw [htl]
      have hL : l'.length = l.length := by rw [hl'']; simp; omega
      rw [hL, hl'']
      have e1 : ((cs.toList.take (d.1 + o) ++ xs ++ cs.toList.drop (d.1 + o + xs.length)).drop d.1).take l.length
          = (((cs.toList.drop d.1).take l.length).take o) ++ xs ++ (((cs.toList.drop d.1).take l.length).drop (o + vs.length)) := by
        apply List.ext_getElem?
        intro j
        have hcs : cs.toList.length = cs.size := by simp
        rw [List.getElem?_take]
        by_cases hj : j < l.length
        · rw [if_pos hj, List.getElem?_drop]
          by_cases hjo : j < o
          · rw [List.append_assoc, List.getElem?_append_left (by simp; omega), List.getElem?_take, if_pos (by omega)]
            rw [List.append_assoc, List.getElem?_append_left (by simp; omega), List.getElem?_take, if_pos (by omega), List.getElem?_take, if_pos hj, List.getElem?_drop]
          · by_cases hjx : j < o + xs.length
            · rw [List.getElem?_append_left (by simp; omega), List.getElem?_append_right (by simp; omega)]
              rw [List.getElem?_append_left (by simp; omega), List.getElem?_append_right (by simp; omega)]
              congr 1
              simp
              omega
            · rw [List.getElem?_append_right (by simp; omega), List.getElem?_append_right (by simp; omega)]
              rw [List.getElem?_drop, List.getElem?_drop, List.getElem?_take, List.getElem?_drop]
              simp only [List.length_append, List.length_take, List.length_drop, hcs]
              rw [if_pos (by omega)]
              congr 1
              omega
        · rw [if_neg hj, eq_comm, List.getElem?_eq_none]
          simp
          omega
      rw [e1]
      exact ((h3.take o).append hvs).append (h3.drop _)
    · refine ⟨?_, ?_⟩
      rotate_left
      · rw [htl]
        intro v hv
        rcases List.mem_append.1 hv with hv | hv
        · rcases List.mem_append.1 hv with hv | hv
          · exact h4.2 v (List.mem_of_mem_take hv)
          · exact vrs_cells hvs hone v hv
        · exact h4.2 v (List.mem_of_mem_drop hv)
      intro _
      refine ⟨fun j hj1 hj2 => ?_, (h4.1 rfl).2⟩
      rw [hsz] at hj2
      exact (h4.1 rfl).1 j hj1 hj2
  have := r.turn hb hg rfl hnew
  exact ⟨_, φ, hrun, this.1, this.2⟩

end
end Go.Clean

namespace Go.Clean

/-- a type's zero value -/
def ZR (zl : List AV) (z : Value) : Prop := cellsOk zl = true ∧ ∀ φ, VRs φ zl z.cells.toList
theorem ZR.length {zl : List AV} {z : Value} (h : ZR zl z) : z.cells.size = zl.length := by
  have := (h.2 ⟨fun _ => none, fun _ => .bool true, fun _ => true⟩).length
  simpa using this.symm

section
variable {B : Base} {L : Laid} {P : Program} {φ : Phi} {h : H} {w : World}

theorem HR.newCells (r : HR B L φ h w) {l : List AV} {xs : List Value} {T : Nat} {row : Bool} {cs : Array Value} {fz : Nat × Nat} (hc : cellsOk l = true) (hv : VRs φ l xs)
    (hcs : cs.toList.take xs.length = xs) (hrow : row = false → cs.size = l.length) (hfz : ∀ i, i < cs.size → ¬ (fz.1 ≤ i ∧ i < fz.2)) (hall : ∀ v ∈ cs.toList, isCellV v = true) (hM : φ.M T = false → fz.2 ≤ fz.1 := by intro _; exact Nat.zero_le _) :
    HR B L (put φ h.next w.heap.size (0, cs.size)) (newB h (.cells l T row false)) { w with heap := w.heap.push (.cells cs T fz) } ∧
    Step φ h w (put φ h.next w.heap.size (0, cs.size)) (newB h (.cells l T row false)) { w with heap := w.heap.push (.cells cs T fz) } := by
  refine r.new ⟨hc, cs, fz, rfl, ?_, ⟨rfl, fun e => ⟨rfl, hrow e⟩⟩, ?_, ⟨fun _ => ⟨fun i _ hi => hfz i hi, hM⟩, hall⟩⟩
  · have h1 := hv.length
    have h2 := congrArg List.length hcs
    simp at h2
    show 0 + l.length ≤ cs.size
    omega
  · show VRs _ l ((cs.toList.drop 0).take l.length)
    rw [hv.length, List.drop_zero, hcs]
    exact hv.mono (.put _ _ r.none_next)

theorem DoneV.new (r : HR B L φ h w) {s : Sem Value} {v : AV} {v' : Value} {l : List AV} {xs : List Value} {T : Nat} {row : Bool} {cs : Array Value} {fz : Nat × Nat} {w1 : World}
    (hc : cellsOk l = true) (hv : VRs φ l xs)
    (hcs : cs.toList.take xs.length = xs) (hrow : row = false → cs.size = l.length) (hfz : ∀ i, i < cs.size → ¬ (fz.1 ≤ i ∧ i < fz.2))
    (hw1 : HR B L φ h w1 ∧ Step φ h w φ h w1 ∧ w1.heap = w.heap)
    (hs : s.run P w = .ok v' { w1 with heap := w1.heap.push (.cells cs T fz) }) (hvr : VR (put φ h.next w.heap.size (0, cs.size)) v v') (hall : ∀ v ∈ cs.toList, isCellV v = true) (hM : φ.M T = false → fz.2 ≤ fz.1 := by intro _; exact Nat.zero_le _) :
    DoneV B L P s φ h w v (newB h (.cells l T row false)) := by
  obtain ⟨a, b⟩ := hw1.1.newCells (T := T) (row := row) hc hv hcs hrow hfz hall hM
  rw [hw1.2.2] at a b hs
  exact ⟨v', _, _, hs, hvr, a, hw1.2.1.trans b⟩

theorem no_fz {n : Nat} : ∀ i, i < n → ¬ (((0, 0) : Nat × Nat).1 ≤ i ∧ i < ((0, 0) : Nat × Nat).2) := by intro i _ h; exact absurd h.2 (Nat.not_lt_zero _)

theorem alloc_ok (r : HR B L φ h w) {T : TypeId} {i : TypeInfo} {z : Value} {zl : List AV} (hi : P.info? T = some i) (hz : i.zero = some z) (hzr : ZR zl z) :
    DoneV B L P (Instr.alloc T true (.tuple #[])) φ h w (.ptr h.next 0) (newB h (.cells zl T false false)) := by
  refine .new (v' := .pointer (some ⟨w.heap.size, 0, none⟩)) (xs := z.cells.toList) (cs := z.cells) (fz := (0, 0)) (w1 := w) r hzr.1 (hzr.2 φ) List.take_length (fun _ => hzr.length) no_fz ⟨r, .refl _ _ _, rfl⟩ ?_ (.ptr (d := (0, _)) (put_same _ _ _ _)) (vrs_cells (hzr.2 φ) hzr.1)
  simp [Instr.alloc, zeroValue, typeInfo, hi, hz, newVar, newRow]

theorem box_ok (r : HR B L φ h w) {T : TypeId} {v : AV} {x : Value} (hx : VR φ v x) (hc : cellsOk (cellsA v) = true) :
    DoneV B L P (Instr.box T x) φ h w (.ptr h.next 0) (newB h (.cells (cellsA v) T false false)) := by
  have hv := hx.cells
  refine .new (v' := .pointer (some ⟨w.heap.size, 0, none⟩)) (xs := x.cells.toList) (cs := x.cells) (fz := (0, 0)) (w1 := w) r hc hv List.take_length (fun _ => by have := hv.length; simpa using this.symm) no_fz ⟨r, .refl _ _ _, rfl⟩ ?_ (.ptr (d := (0, _)) (put_same _ _ _ _)) (vrs_cells hv hc)
  simp [Instr.box, newVar, newRow]

/-! ### parts -/
theorem stores_fold (off : Nat) : ∀ (xs : List Value) (k : Nat) (cs : Array Value), (xs.zipIdx k).foldl (fun cs (x : Value × Nat) => cs.setIfInBounds (off + x.2) x.1) cs = stores cs (off + k) xs := by
  intro xs
  induction xs with
  | nil => intro k cs; rfl
  | cons x xs ih => intro k cs; simp only [List.zipIdx_cons, List.foldl_cons, stores]; rw [ih]; rfl

inductive PRs (φ : Phi) (place : Nat → Option (Nat × Nat)) : List (Nat × Nat × AV) → List (Nat × Value) → Prop where
  | nil : PRs φ place [] []
  | cons {off size : Nat} {v : AV} {i : Nat} {x : Value} {l : List (Nat × Nat × AV)} {r : List (Nat × Value)} : place i = some (off, size) → VR φ v x → PRs φ place l r → PRs φ place ((off, size, v) :: l) ((i, x) :: r)

theorem fill_ok {place : Nat → Option (Nat × Nat)} {pl : List (Nat × Nat × AV)} {ps : List (Nat × Value)} (hp : PRs φ place pl ps) : ∀ {cells : List AV} {cs : Array Value} {l : List AV},
    VRs φ cells cs.toList → fillA cells pl = some l → ∃ cs', Instr.fill place cs ps = some cs' ∧ VRs φ l cs'.toList := by
  induction hp with
  | nil => intro cells cs l hc hf; simp [fillA] at hf; subst hf; exact ⟨cs, rfl, hc⟩
  | @cons off size v i x l r hpl hv _ ih =>
    intro cells cs l' hc hf
    simp only [fillA] at hf
    split at hf <;> try contradiction
    rename_i hsz
    have hsz := Nat.eq_of_beq_eq_true hsz
    split at hf <;> try contradiction
    rename_i c hsp
    obtain ⟨e1, e2⟩ := splice_eq hsp
    have hvc := hv.cells
    have hvl := hvc.length
    have hcl := hc.length
    simp only [Array.length_toList] at hvl hcl
    have hfold : x.cells.zipIdx.foldl (fun cs (x : Value × Nat) => cs.setIfInBounds (off + x.2) x.1) cs = stores cs off x.cells.toList := by
      rw [← Array.foldl_toList, Array.toList_zipIdx]
      exact stores_fold off _ 0 cs
    have hst : VRs φ c (stores cs off x.cells.toList).toList := by
      rw [stores_toList _ _ _ (by simp; omega), e1, show (x.cells.toList).length = (cellsA v).length by simp [hvl]]
      exact ((hc.take _).append hvc).append (hc.drop _)
    obtain ⟨cs', h1, h2⟩ := ih hst hf
    refine ⟨cs', ?_, h2⟩
    unfold Instr.fill
    simp only [hpl]
    rw [if_neg (by simp; omega)]
    exact Eq.trans (congrArg (fun c => Instr.fill place c r) hfold) h1

theorem built_ok {t : TypeId} {parts : Array (Nat × Value)} {zl l : List AV} {z : Value} {place : Nat → Option (Nat × Nat)} {pl : List (Nat × Nat × AV)}
    (r : HR B L φ h w) (hzr : ZR zl z) (hp : PRs φ place pl parts.toList) (hb : P.built t parts.toList = Instr.fill place z.cells parts.toList)
    (hf : fillA zl pl = some l) (hc : cellsOk l = true) : DoneV B L P (Instr.build t parts) φ h w (.agg l) h := by
  obtain ⟨cs', h1, h2⟩ := fill_ok hp (hzr.2 φ) hf
  exact .pure r (run_build w t parts cs' (hb.trans h1)) (.agg h2 hc)

/-! ### rows of zeros -/
theorem copies_length {α : Type} (l : List α) (n : Nat) : (copies l n).length = n * l.length := by
  induction n with
  | zero => simp [copies]
  | succ n ih => simp [copies, ih, Nat.succ_mul, Nat.add_comm]
theorem copies_get {α : Type} (l : List α) (n j : Nat) (hj : j < n * l.length) : (copies l n)[j]? = l[j % l.length]? := by
  induction n generalizing j with
  | zero => simp at hj
  | succ n ih =>
    simp only [copies]
    by_cases h : j < l.length
    · rw [List.getElem?_append_left h, Nat.mod_eq_of_lt h]
    · rw [Nat.succ_mul] at hj
      rw [List.getElem?_append_right (by omega), ih _ (by omega)]
      rw [Nat.mod_eq_sub_mod (a := j) (b := l.length) (by omega)]
theorem mem_copies {α : Type} {l : List α} {n : Nat} {x : α} (h : x ∈ copies l n) : x ∈ l := by
  induction n with
  | zero => cases h
  | succ n ih =>
    rcases List.mem_append.1 h with h | h
    · exact h
    · exact ih h
theorem copies_vrs {l : List AV} {r : List Value} (hr : VRs φ l r) (n : Nat) : VRs φ (copies l n) (copies r n) := by
  induction n with
  | zero => exact .nil
  | succ n ih => exact hr.append ih
theorem cellsOk_copies {l : List AV} (h : cellsOk l = true) (n : Nat) : cellsOk (copies l n) = true := by
  induction n with
  | zero => rfl
  | succ n ih => exact cellsOk_append h ih
theorem made_copies (z : Array Value) (n : Nat) : ((Array.range (n * z.size)).map (z[· % z.size]!)).toList = copies z.toList n := by
  apply List.ext_getElem?
  intro j
  by_cases hj : j < n * z.size
  · rw [copies_get _ _ _ (by simpa using hj)]
    simp only [Array.toList_map, Array.toList_range, List.getElem?_map, List.getElem?_range hj, Option.map_some, Array.length_toList]
    have hpos : 0 < z.size := by rcases Nat.eq_zero_or_pos z.size with h | h; · rw [h] at hj; omega
                                 · exact h
    have hm : j % z.size < z.size := Nat.mod_lt _ hpos
    rw [getElem!_pos z _ hm, Array.getElem?_toList, Array.getElem?_eq_getElem hm]
  · rw [List.getElem?_eq_none (by simp; omega), List.getElem?_eq_none (by rw [copies_length]; simp; omega)]

theorem buildSlice_ok (r : HR B L φ h w) {t e : TypeId} {n : Nat} {parts : Array (Nat × Value)} {ie : TypeInfo} {z : Value} {zl l : List AV} {pl : List (Nat × Nat × AV)}
    (hu : P.underlying t = some (.slice e)) (hie : P.info? e = some ie) (hz : ie.zero = some z) (hzr : ZR zl z) (hsz : ie.size = zl.length)
    (hsmall : n * ie.size ≤ 2 ^ 24) (hpos : 0 < n * ie.size) (hp : PRs φ (fun i => some (i * ie.size, ie.size)) pl parts.toList)
    (hf : fillA (copies zl n) pl = some l) (hc : cellsOk l = true) :
    DoneV B L P (Instr.buildSlice t n parts) φ h w (.slice h.next 0 n n 0) (newB h (.cells l e false false)) := by
  have hzl := hzr.length
  have hcs : VRs φ (copies zl n) ((Array.range (n * ie.size)).map (z.cells[· % z.cells.size]!)).toList := by
    rw [hsz, ← hzl, made_copies]
    exact copies_vrs (hzr.2 φ) n
  obtain ⟨cs', h1, h2⟩ := fill_ok hp hcs hf
  refine .new (v' := .slice (some ⟨w.heap.size, 0, none⟩) n n) (xs := cs'.toList) (cs := cs') (fz := (0, 0)) (w1 := w) r hc h2 List.take_length (fun _ => by have := h2.length; simpa using this.symm) no_fz ⟨r, .refl _ _ _, rfl⟩ ?_
    (.slice (d := (0, _)) (put_same _ _ _ _) (Nat.le_refl _) (Nat.le_refl _) (fun _ => rfl) fun e => absurd rfl e) (vrs_cells h2 hc)
  exact run_buildSlice w t e n parts cs' ie z hu hie hz (by omega) (by omega) h1

theorem buildSlice0_ok (r : HR B L φ h w) {t e : TypeId} {ie : TypeInfo} (hu : P.underlying t = some (.slice e)) (hie : P.info? e = some ie) :
    DoneV B L P (Instr.buildSlice t 0 #[]) φ h w (.slice h.next 0 0 0 0) (newB h (.cells [] e false false)) := by
  refine .new (v' := .slice (some ⟨w.heap.size, 0, none⟩) 0 0) (xs := []) (cs := #[]) (fz := (0, 0)) (w1 := w) r rfl .nil rfl (fun _ => rfl) no_fz ⟨r, .refl _ _ _, rfl⟩ ?_
    (.slice (d := (0, _)) (put_same _ _ _ _) (Nat.le_refl _) (Nat.le_refl _) (fun _ => rfl) fun e => absurd rfl e) (fun v hv => by cases hv)
  have h0 : (Array.range 0 : Array Nat) = #[] := rfl
  simp [Instr.buildSlice, run_underlying hu, sizeOf, typeInfo, hie, Instr.fill, newRow, h0]

theorem makeMap_ok (r : HR B L φ h w) {t : TypeId} : DoneV B L P (Instr.makeMap t none) φ h w (.map h.next) (newB h (.map [])) := by
  obtain ⟨a, b⟩ := r.new (o := .map []) (x := .map #[] 0) (D := (0, 0)) ⟨#[], 0, rfl, .nil⟩
  exact ⟨.map (some w.heap.size), _, _, rfl, .map (put_same _ _ _ _), a, b⟩

theorem natOf_eq {v : AV} {n : Nat} (hn : natOf v = some n) : ∃ k, v = .int k (n : Int) := by
  unfold natOf at hn
  split at hn <;> try contradiction
  cases hn
  exact ⟨_, rfl⟩

theorem makeSlice_ok (r : HR B L φ h w) {t e : TypeId} {i : TypeInfo} {z : Value} {zl : List AV} {lv cv : AV} {l c : Value} {n k : Nat}
    (hu : P.underlying t = some (.slice e)) (hi : P.info? e = some i) (hz : i.zero = some z) (hzr : ZR zl z) (hsz : i.size = zl.length)
    (hl : VR φ lv l) (hc : VR φ cv c) (hn : natOf lv = some n) (hk : natOf cv = some k) (hnk : n ≤ k) (hb : k * i.bytes ≤ 1000000000) (hkk : k ≤ 1000000) :
    DoneV B L P (Instr.makeSlice t l c) φ h w (.slice h.next 0 n k 0) (newB h (.cells (copies zl k) e false false)) := by
  obtain ⟨k1, rfl⟩ := natOf_eq hn
  obtain ⟨k2, rfl⟩ := natOf_eq hk
  cases hl; cases hc
  have hzl := hzr.length
  have hby : (i.bytes : Int) * (k : Int) ≤ 281474976710656 := by
    have h1 : ((k * i.bytes : Nat) : Int) ≤ ((1000000000 : Nat) : Int) := Int.ofNat_le.2 hb
    rw [Int.natCast_mul, Int.mul_comm] at h1
    omega
  have hrun := run_make (P := P) w t e i z hu hi hz k1 k2 n k (Int.natCast_nonneg _) (Int.ofNat_le.2 hnk) hby (by omega)
  simp only [Int.toNat_natCast] at hrun
  refine .new (v' := .slice (some ⟨w.heap.size, 0, none⟩) n k) (xs := copies z.cells.toList k) (cs := madeCells z.cells (k * i.size)) (fz := (0, 0)) (w1 := w) r (cellsOk_copies hzr.1 k) (copies_vrs (hzr.2 φ) k) ?_ (fun _ => ?_) no_fz ⟨r, .refl _ _ _, rfl⟩ hrun
    (.slice (d := (0, _)) (put_same _ _ _ _) hnk (Nat.le_refl _) (fun _ => rfl) fun e => absurd rfl e)
    (by have : (madeCells z.cells (k * i.size)).toList = copies z.cells.toList k := by rw [hsz, ← hzl]; exact made_copies _ _
        rw [this]; exact vrs_cells (copies_vrs (hzr.2 φ) k) (cellsOk_copies hzr.1 k))
  · have : (madeCells z.cells (k * i.size)).toList = copies z.cells.toList k := by rw [hsz, ← hzl]; exact made_copies _ _
    rw [this, List.take_length]
  · rw [copies_length]; show ((Array.range (k * i.size)).map _).size = _; rw [Array.size_map, Array.size_range, hsz]

end
end Go.Clean

namespace Go.Clean

section
variable {B : Base} {L : Laid} {P : Program} {φ : Phi} {h : H} {w : World}

theorem add_zero_off (c o j : Nat) : (⟨c, o, none⟩ : Addr).add j = ⟨c, o + j, none⟩ := by
  unfold Addr.add; split
  · rename_i hj0; subst hj0; rfl
  · rfl

theorem cells_at {c d : Nat} {cs : Array Value} {T : TypeId} {fz : Nat × Nat} {l r : List AV} {o n : Nat} (hw : w.heap[c]? = some (.cells cs T fz))
    (hr : VRs φ l ((cs.toList.drop d).take l.length)) (hs : sub l o n = some r) :
    ∃ vs : List Value, VRs φ r vs ∧ vs.length = n ∧ ∀ j v, vs[j]? = some v → w.cell? ((⟨c, d + o, none⟩ : Addr).add j) = some v := by
  have hsub := hr.sub hs
  generalize hvs : ((((cs.toList.drop d).take l.length).drop o).take n) = vs at hsub
  have hlen : vs.length = n := by rw [← hsub.length]; exact sub_length hs
  refine ⟨vs, hsub, hlen, fun j v hj => ?_⟩
  have hj' : cs[d + o + j]? = some v := by
    rw [← hvs] at hj
    rw [List.getElem?_take] at hj
    split at hj
    · rw [List.getElem?_drop, List.getElem?_take] at hj
      split at hj
      · rw [List.getElem?_drop] at hj
        rw [Array.getElem?_toList] at hj
        rw [Nat.add_assoc]; exact hj
      · cases hj
    · cases hj
  rw [add_zero_off]
  exact cell_of hw hj'

theorem bytes_vrs : ∀ l : List UInt8, VRs φ (bytesA (l.map (·.toNat))) (l.map fun b => Value.int .u8 b.toNat)
  | [] => .nil
  | _ :: l => .cons (.int _ _) (bytes_vrs l)
theorem bytesA_ok : ∀ l : List Nat, cellsOk (bytesA l) = true
  | [] => rfl
  | _ :: l => bytesA_ok l

theorem src_ok (r : HR B L φ h w) {tx : TypeId} (hk : (∃ e', P.underlying tx = some (.slice e')) ∨ P.underlying tx = some .string) {size : Nat} {x : AV} {xv : Value} (hx : VR φ x xv)
    {n : Nat} {new : List AV} (ha : added h size x = some (n, new)) : ∃ news, Src P size tx xv n news w ∧ VRs φ new news ∧ cellsOk new = true := by
  unfold added at ha
  split at ha
  · cases ha; cases hx
    exact ⟨[], ⟨hk, fun _ => rfl, run_firstCells_none w size 0 0 0, run_firstCells_none w.drew size 0 0 0, by simp, fun _ h => by cases h⟩, .nil, rfl⟩
  · cases ha; cases hx
    rename_i a k
    refine ⟨[], ⟨hk, fun _ => rfl, ?_, ?_, by simp, fun _ h => by cases h⟩, .nil, rfl⟩
    · exact run_firstCells_some w size 0 a 0 k [] (by simp) (by simp)
    · exact run_firstCells_some w.drew size 0 a 0 k [] (by simp) (by simp)
  · split at ha <;> try contradiction
    rename_i l hl
    cases ha
    unfold cellsAt at hl
    split at hl <;> try contradiction
    rename_i l0 T row fr hg
    cases hx with
    | @slice _ _ _ _ k' c _ d hb h1 h2 h3 h4 =>
      obtain ⟨hc, cs, fz, hw, g1, g2, g3, g4⟩ := r.obj _ c d _ hb hg
      obtain ⟨vs, v1, v2, v3⟩ := cells_at hw g3 hl
      have hcl := cellsOk_sub hc hl
      exact ⟨vs, ⟨hk, fun _ => rfl, run_firstCells_some w size n _ n k' vs v2 v3, run_firstCells_some w.drew size n _ n k' vs v2 (by simpa using v3), v2, oneCell_of v1 hcl⟩, v1, hcl⟩
  · rename_i s
    split at ha <;> try contradiction
    rename_i hsz
    cases ha
    have hsz := Nat.eq_of_beq_eq_true hsz
    subst hsz
    cases hx with
    | @str _ b hb =>
      have hlen : s.length = b.size := by rw [← hb]; simp
      refine ⟨byteCells b, ?_, ?_, bytesA_ok _⟩
      · rw [hlen]
        exact ⟨hk, fun _ => rfl, firstCells_string b w, firstCells_string b w.drew, by rw [byteCells_length, Nat.mul_one], fun u hu => by
          obtain ⟨_, _, rfl⟩ := List.mem_map.1 hu
          rfl⟩
      · rw [← hb]; exact bytes_vrs _
  · contradiction

/-- there is room -/
theorem run_append_in {t tx ty e : TypeId} {i : TypeInfo} (ht : P.underlying t = some (.slice e)) (hi : P.info? e = some i) {a : Addr} {sLen sCap : Nat} {x : Value} {n : Nat} {news : List Value}
    (hs : Src P i.size tx x n news w) (hroom : sLen + n ≤ sCap) {w' : World} (hst : (storeCells (a.add (sLen * i.size)) news).run P w = .ok () w') :
    (Builtin.append_ #[t, tx] ty #[.slice (some a) sLen sCap, x]).run P w = .ok (.slice (some a) (sLen + n) sCap) w' := by
  rcases hs.kind with ⟨e', hk⟩ | hk <;> simp [Builtin.append_, run_underlying ht, run_underlying hk, sizeOf, typeInfo, hi, hs.len, hroom, hs.cells, hst]

theorem le_grownCap {w : World} {need old : Nat} {e : TypeId} : need ≤ grownCap w need old e := by
  unfold grownCap Question.cut; exact Nat.le_add_right _ _

theorem grow_ok (r : HR B L φ h w) {t tx ty e : TypeId} {i : TypeInfo} {z : Value} (ht : P.underlying t = some (.slice e)) (hi : P.info? e = some i) (hz : i.zero = some z) (hzs : z.cells.size = i.size) (hza : ∀ v ∈ z.cells.toList, isCellV v = true) (hpos : 0 < i.size)
    {base : Option Addr} {sLen sCap : Nat} {olds news : List Value} {old new : List AV} (hold : (Builtin.firstCells i.size sLen (.slice base sLen sCap)).run P w.drew = .ok olds.toArray w.drew)
    (holds : olds.length = sLen * i.size) {x : Value} {n : Nat} (hs : Src P i.size tx x n news w) (hov : VRs φ old olds) (hoc : cellsOk old = true) (hnv : VRs φ new news) (hnc : cellsOk new = true)
    (hg : sCap < sLen + n) (hby : (sLen + n) * i.bytes ≤ 1000000000) (hne : sLen + n ≤ 1000000000) :
    DoneV B L P (Builtin.append_ #[t, tx] ty #[.slice base sLen sCap, x]) φ h w (.slice h.next 0 (sLen + n) (sLen + n) i.size) (newB h (.cells (old ++ new) e true false)) := by
  have hrun := run_append_grow_src (P := P) w t tx ty e i z ht hi hz base sLen sCap olds hold x n news hs hg (by omega) (growslice_fits hg (by omega))
  have hcap := @le_grownCap w (sLen + n) sCap e
  refine .new (xs := olds ++ news) (cs := (olds ++ news).toArray ++ Builtin.zeroCells z.cells (grownCap w (sLen + n) sCap e - (sLen + n))) (fz := (0, 0)) (w1 := w.drew) r (cellsOk_append hoc hnc) (hov.append hnv)
    ?_ (fun e => by cases e) no_fz ⟨r.drew _, .drew _ _ _ _, rfl⟩ hrun (.slice (d := (0, _)) (put_same _ _ _ _) (Nat.le_refl _) hcap (fun e => ?_) fun _ => ?_) ?_
  · rw [Array.toList_append, List.take_append_of_le_length (by simp), List.take_of_length_le (by simp)]
  · exact absurd e (Nat.pos_iff_ne_zero.1 hpos)
  · show 0 + 0 + grownCap w (sLen + n) sCap e * i.size ≤ _
    simp only [Array.size_append, Builtin.zeroCells, Array.size_map, Array.size_range, List.size_toArray, List.length_append, holds, hs.newsLen, hzs]
    rw [← Nat.add_mul, ← Nat.add_mul]
    have : sLen + n + (grownCap w (sLen + n) sCap e - (sLen + n)) = grownCap w (sLen + n) sCap e := by omega
    rw [this]
    omega
  · intro v hv
    rw [Array.toList_append] at hv
    rcases List.mem_append.1 hv with hv | hv
    · rcases List.mem_append.1 hv with hv | hv
      · exact vrs_cells hov hoc v hv
      · exact vrs_cells hnv hnc v hv
    · have e1 : (Builtin.zeroCells z.cells (grownCap w (sLen + n) sCap e - (sLen + n))).toList = copies z.cells.toList _ := made_copies _ _
      rw [e1] at hv
      exact hza v (mem_copies hv)

theorem run_append_grow_zeros (w : World) (t tn ty e : TypeId) (i : TypeInfo) (z : Value) (k kn : IntKind) (ht : P.underlying t = some (.slice e)) (htn : P.underlying tn = some (.int kn)) (hi : P.info? e = some i) (hz : i.zero = some z)
    (base : Option Addr) (sLen sCap : Nat) (olds : List Value) (hold : (Builtin.firstCells i.size sLen (.slice base sLen sCap)).run P w.drew = .ok olds.toArray w.drew)
    (n : Nat) (h0 : 0 < n) (hs : 0 < i.size) (h63 : ((sLen + n : Nat) : Int) ≤ 9223372036854775807) (h48 : n * i.bytes ≤ 281474976710656) (hg : sCap < sLen + n) (hfit : Builtin.nextslicecap (sLen + n) sCap * i.bytes ≤ 281474976710656) :
    (Builtin.append_ #[t, tn] ty #[.slice base sLen sCap, .int k n]).run P w =
      .ok (.slice (some ⟨w.heap.size, 0, none⟩) (sLen + n) (grownCap w (sLen + n) sCap e)) (w.drew.alloc (.cells (olds.toArray ++ Builtin.zeroCells z.cells n ++ Builtin.zeroCells z.cells (grownCap w (sLen + n) sCap e - (sLen + n))) e)) := by
  have hn : ¬ (sLen + n ≤ sCap) := by omega
  have hw : IntKind.i64.wrap (n : Int) = n := by rw [IntKind.wrap_i64]; omega
  have h63' : ¬ (9223372036854775807 < ((sLen : Int) + (n : Int))) := by omega
  have h48' : ¬ (281474976710656 < Builtin.nextslicecap (sLen + n) sCap * i.bytes) := by omega
  have h48i : ¬ (281474976710656 < (n : Int) * (i.bytes : Int)) := by
    rw [← Int.natCast_mul]
    omega
  have hneg : ¬ ((n : Int) < 0) := by omega
  have hns : ¬ (n * i.size = 0) := Nat.mul_ne_zero (by omega) (by omega)
  simp [Builtin.append_, run_underlying ht, run_underlying htn, sizeOf, typeInfo, zeroValue, hi, hz, asInt, asIntOf, hw, hn, hneg, hns, h63', h48', h48i, Question.forced, hold, newRow, grownCap]

theorem appendZ_ok (r : HR B L φ h w) {t tn ty e : TypeId} {i : TypeInfo} {z : Value} {zl : List AV} {kn : IntKind} (ht : P.underlying t = some (.slice e)) (htn : P.underlying tn = some (.int kn)) (hi : P.info? e = some i) (hz : i.zero = some z) (hzr : ZR zl z) (hzs : i.size = zl.length) (hpos : 0 < i.size)
    {s x : AV} {sv xv : Value} {b o len cap ex n : Nat} (hse : s = .slice b o len cap ex) (hsv : VR φ s sv) (hx : VR φ x xv) (hn : natOf x = some n) (hex : ex = 0) (h0 : 0 < n) (hroom : cap < len + n) (hb1 : (len + n) * i.bytes ≤ 1000000000) (hb2 : len + n ≤ 1000000000)
    {old : List AV} (hold : cellsAt h b o (len * i.size) = some old) :
    DoneV B L P (Builtin.append_ #[t, tn] ty #[sv, xv]) φ h w (.slice h.next 0 (len + n) (len + n) i.size) (newB h (.cells (old ++ copies zl n) e true false)) := by
  subst hse
  obtain ⟨k, rfl⟩ := natOf_eq hn
  cases hx
  have hzl := hzr.length
  cases hsv with
  | @slice _ _ _ _ k' c _ d hb h1 h2 h3 h4 =>
    have hk := h3 hex
    subst hk
    unfold cellsAt at hold
    split at hold <;> try contradiction
    rename_i l T row fr hg
    obtain ⟨hc, cs, fz, hw, g1, g2, g3, g4⟩ := r.obj _ c d _ hb hg
    obtain ⟨vs, v1, v2, v3⟩ := cells_at hw g3 hold
    have hoc := cellsOk_sub hc hold
    have hnb : n * i.bytes ≤ 281474976710656 := by
      have := Nat.mul_le_mul_right i.bytes (show n ≤ len + n by omega)
      omega
    have hrun := run_append_grow_zeros (P := P) w t tn ty e i z k kn ht htn hi hz (some ⟨c, d.1 + o, none⟩) len k' vs (run_firstCells_some w.drew i.size len _ len k' vs v2 (by simpa using v3)) n h0 hpos (by omega) hnb hroom (growslice_fits hroom (by omega))
    have hcap := @le_grownCap w (len + n) k' e
    have hzc : (Builtin.zeroCells z.cells n).toList = copies z.cells.toList n := made_copies _ _
    have hol : old.length = len * i.size := sub_length hold
    refine .new (xs := vs ++ copies z.cells.toList n) (cs := vs.toArray ++ Builtin.zeroCells z.cells n ++ Builtin.zeroCells z.cells (grownCap w (len + n) k' e - (len + n))) (fz := (0, 0)) (w1 := w.drew) r (cellsOk_append hoc (cellsOk_copies hzr.1 n)) (v1.append (copies_vrs (hzr.2 φ) n))
      ?_ (fun e => by cases e) no_fz ⟨r.drew _, .drew _ _ _ _, rfl⟩ hrun (.slice (d := (0, _)) (put_same _ _ _ _) (Nat.le_refl _) hcap (fun e => ?_) fun _ => ?_) ?_
    · rw [Array.toList_append, Array.toList_append, hzc, List.take_append_of_le_length (by simp), List.take_of_length_le (by simp)]
    · exact absurd e (Nat.pos_iff_ne_zero.1 hpos)
    · show 0 + 0 + grownCap w (len + n) k' e * i.size ≤ _
      have hzs' : z.cells.size = i.size := by rw [hzl, hzs]
      simp only [Array.size_append, Builtin.zeroCells, Array.size_map, Array.size_range, List.size_toArray, v2, hzs']
      rw [← Nat.add_mul, ← Nat.add_mul]
      have : len + n + (grownCap w (len + n) k' e - (len + n)) = grownCap w (len + n) k' e := by omega
      rw [this]
      omega
    · have hza := vrs_cells (hzr.2 φ) hzr.1
      intro v hv
      rw [Array.toList_append, Array.toList_append] at hv
      rcases List.mem_append.1 hv with hv | hv
      · rcases List.mem_append.1 hv with hv | hv
        · exact vrs_cells v1 hoc v hv
        · rw [hzc] at hv
          exact hza v (mem_copies hv)
      · have e1 : (Builtin.zeroCells z.cells (grownCap w (len + n) k' e - (len + n))).toList = copies z.cells.toList _ := made_copies _ _
        rw [e1] at hv
        exact hza v (mem_copies hv)

/-- a block is given up -/
theorem HR.kill (r : HR B L φ h w) {b : Nat} {x : Nat × (Nat × Nat)} (hb : φ b = some x) :
    HR B L φ ⟨h.m.set b .dead, h.next⟩ w ∧ Step φ h w φ ⟨h.m.set b .dead, h.next⟩ w := by
  refine ⟨⟨r.dom, ?_, ?_, r.laid, r.base, r.marks, ?_⟩, ⟨.refl _, ?_, Nat.le_refl _, Nat.le_refl _, fun _ _ h => h, fun _ _ _ => rfl, rfl, rfl, rfl⟩⟩
  · intro b' c d o hb' hg
    simp only [Tr.get_set] at hg
    split at hg
    · cases hg; trivial
    · exact r.obj b' c d o hb' hg
  · intro b1 b2 c d d' o o' h1 h2 g1 g2 l1 l2
    simp only [Tr.get_set] at g1 g2
    split at g1
    · cases g1; cases l1
    · split at g2
      · cases g2; cases l2
      · exact r.inj b1 b2 c d d' o o' h1 h2 g1 g2 l1 l2
  · intro b' o hg
    simp only [Tr.get_set] at hg
    split at hg
    · rename_i e; subst e; exact (r.dom _ x.1 x.2 hb).1
    · exact r.fresh b' o hg
  · intro b' _ hn
    refine ⟨hn, ?_⟩
    rw [Tr.get_set_ne _ _ (fun e => by rw [e, hb] at hn; cases hn)]

theorem append_ok (r : HR B L φ h w) {t tx ty e : TypeId} {i : TypeInfo} {z : Value} (ht : P.underlying t = some (.slice e)) (hk : (∃ e', P.underlying tx = some (.slice e')) ∨ P.underlying tx = some .string)
    (hi : P.info? e = some i) (hz : i.zero = some z) (hzs : z.cells.size = i.size) (hza : ∀ v ∈ z.cells.toList, isCellV v = true) (hpos : 0 < i.size) {s x v : AV} {sv xv : Value} {h' : H} (hsv : VR φ s sv) (hx : VR φ x xv)
    (he : evalAppend i.size e i.bytes s x h = some (v, h')) : DoneV B L P (Builtin.append_ #[t, tx] ty #[sv, xv]) φ h w v h' := by
  unfold evalAppend at he
  split at he <;> try contradiction
  rename_i n new ha
  obtain ⟨news, hs, hnv, hnc⟩ := src_ok (P := P) r hk hx ha
  have hnl := hs.newsLen
  split at he
  · rename_i hn
    have hn := Nat.eq_of_beq_eq_true hn
    subst hn
    have hnil : news = [] := List.eq_nil_of_length_eq_zero (by simpa using hnl)
    subst hnil
    split at he <;> try contradiction
    · cases he; cases hsv
      exact .pure r (run_append_nothing w t tx ty e i ht hi none 0 0 (Nat.le_refl _) xv hs) .nilSlice
    · cases he
      cases hsv with
      | slice hb h1 h2 h3 h4 => exact .pure r (run_append_nothing w t tx ty e i ht hi _ _ _ (by omega) xv hs) (.slice hb h1 h2 h3 h4)
  · rename_i hn
    have hn : n ≠ 0 := fun e => by subst e; cases hn
    split at he <;> try contradiction
    · split at he <;> try contradiction
      rename_i hb1 hb2
      have hb1 := Nat.le_of_ble_eq_true hb1
      have hb2 := Nat.le_of_ble_eq_true hb2
      cases he; cases hsv
      have := grow_ok (P := P) (ty := ty) (base := none) (sLen := 0) (sCap := 0) (olds := []) (old := []) r ht hi hz hzs hza hpos (run_firstCells_none w.drew i.size 0 0 0) (by simp) hs .nil rfl hnv hnc (by omega) (by simpa using hb1) (by simpa using hb2)
      simpa using this
    · rename_i b o len cap ex
      cases hsv with
      | @slice _ _ _ _ k' c _ d hb h1 h2 h3 h4 =>
      split at he
      · rename_i hroom
        have hroom := Nat.le_of_ble_eq_true hroom
        split at he <;> try contradiction
        rename_i h1' hset
        cases he
        obtain ⟨w', ψ, hrun, hr', hst⟩ := set_ok (P := P) r hb hnv hnc hset
        have hadd : (⟨c, d.1 + o, none⟩ : Addr).add (len * i.size) = ⟨c, d.1 + (o + len * i.size), none⟩ := by rw [add_zero_off, Nat.add_assoc]
        exact ⟨_, w', ψ, run_append_in ht hi hs (by omega) (by rw [hadd]; exact hrun), .slice (hst.le.1 _ _ hb) hroom h2 h3 h4, hr', hst⟩
      · rename_i hroom
        have hroom : ¬ len + n ≤ cap := fun e => by rw [Nat.ble_eq_true_of_le e] at hroom; cases hroom
        split at he <;> try contradiction
        rename_i hb1 hb2
        have hb1 := Nat.le_of_ble_eq_true hb1
        have hb2 := Nat.le_of_ble_eq_true hb2
        split at he <;> try contradiction
        rename_i l T' row fr hg
        split at he <;> try contradiction
        rename_i old hold
        obtain ⟨hc, cs, fz, hw, g1, g2, g3, g4⟩ := r.obj _ c d _ hb hg
        obtain ⟨vs, v1, v2, v3⟩ := cells_at hw g3 hold
        have hoc := cellsOk_sub hc hold
        have hgrow : k' < len + n → DoneV B L P (Builtin.append_ #[t, tx] ty #[.slice (some ⟨c, d.1 + o, none⟩) len k', xv]) φ h w (.slice h.next 0 (len + n) (len + n) i.size) (newB h (.cells (old ++ new) e true false)) := fun hlt =>
          grow_ok (P := P) (ty := ty) r ht hi hz hzs hza hpos (run_firstCells_some w.drew i.size len _ len k' vs v2 (by simpa using v3)) v2 hs v1 hoc hnv hnc hlt hb1 hb2
        split at he
        · rename_i hex
          have hex := Nat.eq_of_beq_eq_true hex
          cases he
          exact hgrow (by rw [h3 hex]; omega)
        · rename_i hex
          have hex0 : ex ≠ 0 := fun e => by subst e; cases hex
          split at he <;> try contradiction
          rename_i e1 e2 e3
          have e1 := Nat.eq_of_beq_eq_true e1
          have e2 := Nat.eq_of_beq_eq_true e2
          have e3 := Nat.eq_of_beq_eq_true e3
          subst e2
          subst e3
          cases he
          by_cases hlt : k' < len + n
          · obtain ⟨rk, sk⟩ := r.kill hb
            obtain ⟨v', w', ψ, a1, a2, a3, a4⟩ := grow_ok (P := P) (ty := ty) rk ht hi hz hzs hza hpos (run_firstCells_some w.drew i.size len _ len k' vs v2 (by simpa using v3)) v2 hs v1 hoc hnv hnc hlt hb1 hb2
            exact ⟨v', w', ψ, a1, a2, a3, sk.trans a4⟩
          · have hle : len + n ≤ k' := by omega
            have hk' := h4 hex0
            have hend : d.1 + o + len * i.size + news.length ≤ cs.size := by
              rw [g2.1, hnl]
              have := Nat.mul_le_mul_right i.size hle
              rw [Nat.add_mul] at this
              omega
            have hrun := run_stores (P := P) (d := d.1 + o + len * i.size) news 0 cs w hw (by simpa using hend) hs.one (fun j hj1 hj2 => (g4.1 rfl).1 j (by omega) (by omega))
            simp only [Nat.add_zero] at hrun
            have hsz := stores_size news cs (d.1 + o + len * i.size)
            have hsub := g3.sub hold
            have hol := sub_length hold
            have hnew : OR (put φ h.next c (d.1 + o, d.2)) (.cells (old ++ new) T' true false) (d.1 + o, d.2) (some (.cells (stores cs (d.1 + o + len * i.size) news) T' fz)) := by
              refine ⟨cellsOk_append hoc hnc, _, fz, rfl, ?_, ⟨by rw [hsz]; exact g2.1, fun e => by cases e⟩, ?_, ⟨fun _ => ⟨fun j hj1 hj2 => (g4.1 rfl).1 j (by simp only at hj1; omega) (by rw [hsz] at hj2; exact hj2), (g4.1 rfl).2⟩, fun v hv => ?_⟩⟩
              rotate_right
              · rw [stores_toList _ _ _ hend] at hv
                rcases List.mem_append.1 hv with hv | hv
                · rcases List.mem_append.1 hv with hv | hv
                  · exact g4.2 v (List.mem_of_mem_take hv)
                  · exact vrs_cells hnv hnc v hv
                · exact g4.2 v (List.mem_of_mem_drop hv)
              · rw [hsz, List.length_append, hol, hnv.length]
                simp only
                omega
              · refine VRs.mono (.put _ _ r.none_next) ?_
                have hlen : (cs.toList.take (d.1 + o + len * i.size)).length = d.1 + o + len * i.size := by simp; omega
                have e4 : (((cs.toList.drop d.1).take l.length).drop o).take (len * i.size) = (cs.toList.drop (d.1 + o)).take (len * i.size) := by
                  rw [List.drop_take, List.drop_drop, List.take_take]
                  congr 1
                  omega
                rw [e4] at hsub
                have e5 : ((stores cs (d.1 + o + len * i.size) news).toList.drop (d.1 + o)).take (old ++ new).length = (cs.toList.drop (d.1 + o)).take (len * i.size) ++ news := by
                  rw [stores_toList _ _ _ hend, List.append_assoc, List.drop_append_of_le_length (by omega), List.drop_take,
                    show d.1 + o + len * i.size - (d.1 + o) = len * i.size by omega, List.length_append, hol, hnv.length, ← List.append_assoc]
                  rw [List.take_append_of_le_length (by simp; omega)]
                  rw [List.take_of_length_le (by simp; omega)]
                show VRs φ (old ++ new) (((stores cs (d.1 + o + len * i.size) news).toList.drop (d.1 + o)).take (old ++ new).length)
                rw [e5]
                exact hsub.append hnv
            obtain ⟨m1, m2⟩ := r.moveIn hb hg rfl hnew
            have hadd : (⟨c, d.1 + o, none⟩ : Addr).add (len * i.size) = ⟨c, d.1 + o + len * i.size, none⟩ := add_zero_off _ _ _
            refine ⟨_, _, _, run_append_in ht hi hs hle (by rw [hadd]; exact hrun), ?_, m1, m2⟩
            exact .slice (d := (d.1 + o, d.2)) (o := 0) (put_same _ _ _ _) (Nat.le_refl _) hle (fun e => absurd e (Nat.pos_iff_ne_zero.1 hpos)) (fun _ => hk')

/-! ### copy, clear -/
theorem srcLen_ok {s : AV} {sv : Value} (hs : VR φ s sv) {n : Nat} (hn : srcLen s = some n) (w : World) : (Builtin.lenOf sv).run P w = .ok n w := by
  unfold srcLen at hn
  split at hn <;> try contradiction
  · cases hn; cases hs; rfl
  · cases hn; cases hs; rfl
  · cases hn; cases hs; rfl
  · cases hn
    cases hs with
    | @str _ b hb => rw [← hb]; simp [Builtin.lenOf]

theorem firstA_ok (r : HR B L φ h w) {s : AV} {sv : Value} (hs : VR φ s sv) {size n : Nat} {l : List AV} (hl : firstA h size n s = some l) :
    ∃ vs : List Value, (Builtin.firstCells size n sv).run P w = .ok vs.toArray w ∧ VRs φ l vs ∧ cellsOk l = true := by
  unfold firstA at hl
  split at hl <;> try contradiction
  · rename_i b o _ _ _
    unfold cellsAt at hl
    split at hl <;> try contradiction
    rename_i l0 T row fr hg
    cases hs with
    | @slice _ _ _ _ k' c _ d hb h1 h2 h3 h4 =>
      obtain ⟨hc, cs, fz, hw, g1, g2, g3, g4⟩ := r.obj _ c d _ hb hg
      obtain ⟨vs, v1, v2, v3⟩ := cells_at hw g3 hl
      exact ⟨vs, run_firstCells_some w size n _ _ k' vs v2 v3, v1, cellsOk_sub hc hl⟩
  · split at hl <;> try contradiction
    split at hl <;> try contradiction
    rename_i t ht
    cases hl
    cases hs with
    | @str _ b hb =>
      have ht := (takeN_eq ht).1
      refine ⟨(b.data.toList.take n).map fun b => Value.int .u8 b.toNat, ?_, ?_, bytesA_ok _⟩
      · simp [Builtin.firstCells]
        apply Array.ext'
        simp
      · rw [ht, ← hb, ← List.map_take]; exact bytes_vrs _

theorem copy_ok (r : HR B L φ h w) {t tx ty e : TypeId} {i : TypeInfo} (ht : P.underlying t = some (.slice e)) (hi : P.info? e = some i) {d s v : AV} {dv sv : Value} {h' : H} (hd : VR φ d dv) (hs : VR φ s sv)
    (he : evalCopy i.size d s h = some (v, h')) : DoneV B L P (Builtin.copy_ #[t, tx] ty #[dv, sv]) φ h w v h' := by
  unfold evalCopy at he
  split at he <;> try contradiction
  rename_i sn hsn
  have hlen := srcLen_ok (P := P) hs hsn
  have hzero : ∀ w, (Builtin.firstCells i.size 0 sv).run P w = .ok #[] w := by
    intro w
    unfold srcLen at hsn
    split at hsn <;> try contradiction
    · cases hs; rfl
    · cases hs; rename_i a k; exact run_firstCells_some w i.size 0 a 0 k [] (by simp) (by simp)
    · cases hs; rename_i n _ _ _ _ _ k' c d _ _ _ _ _; exact run_firstCells_some w i.size 0 _ _ _ [] (by simp) (by simp)
    · cases hs; simp [Builtin.firstCells]
  split at he <;> try contradiction
  · cases he; cases hd
    refine .pure r ?_ (.int _ _)
    simp [Builtin.copy_, run_underlying ht, sizeOf, typeInfo, hi, hlen, hzero]
    rfl
  · cases he; cases hd
    rename_i a k
    refine .pure r ?_ (.int _ _)
    simp [Builtin.copy_, run_underlying ht, sizeOf, typeInfo, hi, hlen, hzero, storeCells]
    rfl
  · rename_i b o dn cap ex
    rw [minN_eq] at he
    cases hd with
    | @slice _ _ _ _ k' c _ d hb h1 h2 h3 h4 =>
    split at he
    · rename_i h0
      cases he
      refine .pure r ?_ (.int _ _)
      simp [Builtin.copy_, run_underlying ht, sizeOf, typeInfo, hi, hlen, h0, hzero, storeCells]
      rfl
    · rename_i n hn
      split at he <;> try contradiction
      rename_i l hl
      split at he <;> try contradiction
      rename_i h1' hset
      cases he
      obtain ⟨vs, hrun, hv, hc⟩ := firstA_ok (P := P) r hs hl
      obtain ⟨w', ψ, hrun2, hr', hst⟩ := set_ok (P := P) r hb hv hc hset
      refine ⟨_, w', ψ, ?_, .int _ _, hr', hst⟩
      simp [Builtin.copy_, run_underlying ht, sizeOf, typeInfo, hi, hlen, hn, hrun, hrun2]
      rfl

theorem clear_ok (r : HR B L φ h w) {t ty e : TypeId} {i : TypeInfo} {z : Value} {zl : List AV} (ht : P.underlying t = some (.slice e)) (hi : P.info? e = some i) (hz : i.zero = some z) (hzr : ZR zl z)
    {b o n k ex : Nat} {xv : Value} (hx : VR φ (.slice b o n k ex) xv) {h' : H} (hs : setCells h b o (copies zl n) = some h') :
    DoneV B L P (Builtin.clear_ #[t] ty #[xv]) φ h w (.tuple []) h' := by
  cases hx with
  | @slice _ _ _ _ k' c _ d hb h1 h2 h3 h4 =>
    have hzc : (Builtin.zeroCells z.cells n).toList = copies z.cells.toList n := made_copies _ _
    obtain ⟨w', ψ, hrun, hr', hst⟩ := set_ok (P := P) r hb (copies_vrs (hzr.2 φ) n) (cellsOk_copies hzr.1 n) hs
    refine ⟨.tuple #[], w', ψ, ?_, .tuple .nil, hr', hst⟩
    cases n with
    | zero =>
      have : w' = w := by
        simp only [copies] at hrun
        cases hrun
        rfl
      subst this
      simp [Builtin.clear_, run_underlying ht]
    | succ n => simp [Builtin.clear_, run_underlying ht, zeroValue, typeInfo, hi, hz, hzc, hrun]

/-! ### strings and bytes -/
theorem strToBytes_ok (r : HR B L φ h w) (hM : ∀ e, P.underlying e = some (.int .u8) → B.M e = true) {src dst e : TypeId} (hs : P.underlying src = some .string) (hd : P.underlying dst = some (.slice e)) (he : P.underlying e = some (.int .u8))
    {l : List Nat} {xv : Value} (hx : VR φ (.str l) xv) : DoneV B L P (convert src dst xv) φ h w (.slice h.next 0 l.length l.length 1) (newB h (.cells (bytesA l) e true false)) := by
  cases hx with
  | @str _ s hb =>
    have hcap := @le_grownCap w s.size 0 e
    have hlen : l.length = s.size := by rw [← hb]; simp
    refine .new (xs := s.data.toList.map fun b => Value.int .u8 b.toNat) (cs := bytesRow s (grownCap w s.size 0 e)) (fz := _) (w1 := w.drew) r (bytesA_ok _) ?_ ?_ (fun e => by cases e) ?_ ⟨r.drew _, .drew _ _ _ _, rfl⟩
      (hM := fun e0 => by rw [r.marks.1, hM e he] at e0; cases e0) (by have := run_bytes_of_string w src dst e s hs hd he; exact this) ?_ ?_
    · rw [← hb]; exact bytes_vrs _
    · simp only [bytesRow, Array.toList_append, Array.toList_map]
      rw [List.take_append_of_le_length (by simp), List.take_of_length_le (by simp)]
    · intro i hi h'; exact absurd h'.1 (by simp only; omega)
    · rw [hlen]
      refine .slice (d := (0, _)) (put_same _ _ _ _) (Nat.le_refl _) hcap (fun e => by cases e) fun _ => ?_
      show 0 + 0 + grownCap w s.size 0 e * 1 ≤ (bytesRow s (grownCap w s.size 0 e)).size
      simp [bytesRow]
      omega
    · intro v hv
      simp only [bytesRow, Array.toList_append, Array.toList_map, Array.toList_replicate] at hv
      rcases List.mem_append.1 hv with hv | hv
      · obtain ⟨x, _, rfl⟩ := List.mem_map.1 hv; rfl
      · rw [(List.mem_replicate.1 hv).2]; rfl

theorem unbytes_ok : ∀ {l : List AV} {s : List Nat} {vs : List Value}, unbytesA l = some s → VRs φ l vs → ∃ bs : List UInt8, bs.map (·.toNat) = s ∧ vs = bs.map fun b => Value.int .u8 b.toNat := by
  intro l
  induction l with
  | nil => intro s vs h1 h2; cases h1; cases h2; exact ⟨[], rfl, rfl⟩
  | cons a l ih =>
    intro s vs h1 h2
    unfold unbytesA at h1
    split at h1 <;> try contradiction
    · rename_i n l' heq
      cases heq
      split at h1 <;> try contradiction
      rename_i r hn hr
      cases h1
      cases h2 with
      | cons hv h2 =>
        cases hv
        obtain ⟨bs, e1, e2⟩ := ih hr h2
        have hlt : n < 256 := Nat.le_of_ble_eq_true hn
        refine ⟨UInt8.ofNat n :: bs, ?_, ?_⟩
        · simp [e1]; omega
        · simp [e2]; omega

theorem bytesToStr_ok (r : HR B L φ h w) {src dst e : TypeId} (hs : P.underlying src = some (.slice e)) (hd : P.underlying dst = some .string) (he : P.underlying e = some (.int .u8))
    {b o n k ex : Nat} {xv : Value} (hx : VR φ (.slice b o n k ex) xv) {l : List AV} {s : List Nat} (hl : cellsAt h b o n = some l) (hu : unbytesA l = some s) :
    DoneV B L P (convert src dst xv) φ h w (.str s) h := by
  unfold cellsAt at hl
  split at hl <;> try contradiction
  rename_i l0 T row fr hg
  cases hx with
  | @slice _ _ _ _ k' c _ d hb h1 h2 h3 h4 =>
    obtain ⟨hc, cs, fz, hw, g1, g2, g3, g4⟩ := r.obj _ c d _ hb hg
    obtain ⟨vs, hrun, hvs⟩ := run_cells (P := P) hw g3 hl
    obtain ⟨bs, e1, e2⟩ := unbytes_ok hu hvs
    have e3 : vs = (bs.map fun b => (b.toNat : Int)).map (Value.int .u8) := by rw [e2, List.map_map]; rfl
    rw [e3] at hrun
    refine .pure r (v' := .string ⟨bs.toArray⟩) ?_ (.str (by simpa using e1))
    have := run_bytesToString (P := P) w ⟨c, d.1 + o, none⟩ n k' _ hrun
    have e4 : ∀ (bs : List UInt8) (acc : ByteArray), (bs.map fun b => (b.toNat : Int)).foldl (fun r n => r.push (UInt8.ofNat n.toNat)) acc = ⟨acc.data ++ bs.toArray⟩ := by
      intro bs
      induction bs with
      | nil => intro acc; simp
      | cons b bs ih => intro acc; simp only [List.map_cons, List.foldl_cons]; rw [ih]; simp [ByteArray.push]
    rw [e4] at this
    simp only [convert, Sem.run_bind, run_underlying hs, run_underlying hd, Result.andThen_ok, run_underlying he, this]
    simp

theorem nilToStr_ok (r : HR B L φ h w) {src dst e : TypeId} (hs : P.underlying src = some (.slice e)) (hd : P.underlying dst = some .string) (he : P.underlying e = some (.int .u8))
    {xv : Value} (hx : VR φ .nilSlice xv) : DoneV B L P (convert src dst xv) φ h w (.str []) h := by
  cases hx
  refine .pure r (v' := .string .empty) ?_ (.str rfl)
  simp only [convert, Sem.run_bind, run_underlying hs, run_underlying hd, Result.andThen_ok, run_underlying he]
  rfl

theorem sliceData_nil (r : HR B L φ h w) {ts : Array TypeId} {ty : TypeId} {xv : Value} (hx : VR φ .nilSlice xv) : DoneV B L P (Builtin.unsafeSliceData_ ts ty #[xv]) φ h w .nilPtr h := by
  cases hx; exact .pure r (Go.Lib.run_unsafeSliceData_nil w ts ty 0 0) .nilPtr
theorem sliceData_ok (r : HR B L φ h w) {ts : Array TypeId} {ty : TypeId} {b o n k ex : Nat} {xv : Value} (hx : VR φ (.slice b o n k ex) xv) (hn : 1 ≤ n) :
    DoneV B L P (Builtin.unsafeSliceData_ ts ty #[xv]) φ h w (.ptr b o) h := by
  cases hx with
  | slice hb h1 h2 h3 h4 => exact .pure r (Go.Lib.run_unsafeSliceData_row w ts ty _ _ _ (by omega)) (.ptr hb)

theorem lies_bytes {e : TypeId} (hc : P.cellsOf e = 1) (count off n : Nat) (hn : off + n ≤ count) : liesAt P P.depth e count off e n = true := by
  have hd : P.depth = (2 * (P.types.size + Made.depth) + 1) + 1 := rfl
  rw [hd]
  simp only [liesAt, Bool.or_eq_true]
  left
  rw [hd]
  simp [rowAt, hc, hn, sameLayout, Nat.mod_one]

theorem unsafeStr_nil (r : HR B L φ h w) {pt it ty : TypeId} {n : AV} {pv nv : Value} (hp : VR φ .nilPtr pv) (hn : VR φ n nv) (h0 : natOf n = some 0) :
    DoneV B L P (Builtin.unsafeString_ #[pt, it] ty #[pv, nv]) φ h w (.str []) h := by
  obtain ⟨k, rfl⟩ := natOf_eq h0
  cases hp; cases hn
  refine .pure r (v' := .string .empty) ?_ (.str rfl)
  have hmax : IntKind.i64.max = 9223372036854775807 := rfl
  have hdef : Builtin.unsafeString_ #[pt, it] ty #[.pointer none, .int k ((0 : Nat) : Int)] =
      (do
        let n ← asInt (.int k ((0 : Nat) : Int))
        if n < 0 then runtimePanic (.error "unsafe.String: len out of range")
        if n > IntKind.i64.max then unsupported (.unsafePointer "String: a length above the largest int")
        if n = 0 then pure (.string .empty)
        else runtimePanic (.error "unsafe.String: ptr is nil and len is not zero")) := rfl
  rw [hdef]
  simp [asInt, asIntOf, hmax]

theorem unsafeStr_ok (r : HR B L φ h w) {pt it ty T : TypeId} (hpt : P.underlying pt = some (.pointer T)) (hc : P.cellsOf T = 1) {nn : AV} {n b o : Nat} {pv nv : Value} (hp : VR φ (.ptr b o) pv) (hnv : VR φ nn nv)
    (hn : natOf nn = some n) (hpos : n ≠ 0) (hle : n ≤ 1000000000) {l r' : List AV} {row fr : Bool} {s : List Nat} (hg : h.m.get b = some (.cells l T row fr)) (hr : sub l o n = some r') (hu : unbytesA r' = some s) :
    DoneV B L P (Builtin.unsafeString_ #[pt, it] ty #[pv, nv]) φ h w (.str s) ⟨h.m.set b (.cells l T row true), h.next⟩ := by
  obtain ⟨k, rfl⟩ := natOf_eq hn
  cases hnv
  cases hp with
  | @ptr _ _ c d hb =>
    obtain ⟨hcl, cs, fz, hw, g1, g2, g3, g4⟩ := r.obj _ c d _ hb hg
    obtain ⟨vs, v1, v2, v3⟩ := cells_at hw g3 hr
    obtain ⟨bs, e1, e2⟩ := unbytes_ok hu v1
    have hbl : bs.length = n := by rw [← v2, e2]; simp
    have hlb := Go.Lib.run_loadBytes (P := P) w bs ⟨c, d.1 + o, none⟩ .empty (fun j x hj => v3 j _ (by rw [e2, List.getElem?_map, hj]; rfl))
    have hsub := (sub_eq hr).2
    have hlies := lies_bytes (P := P) hc (cs.size / P.cellsOf T) (d.1 + o) n (by rw [hc]; simp; omega)
    have hsh : w.shape? c = some (T, cs.size) := by simp [World.shape?, hw]
    rw [hbl] at hlb
    have hmax : IntKind.i64.max = 9223372036854775807 := rfl
    have hrun : (Builtin.unsafeString_ #[pt, it] ty #[.pointer (some ⟨c, d.1 + o, none⟩), .int k (n : Int)]).run P w = .ok (.string ⟨bs.toArray⟩) (w.freeze ⟨c, d.1 + o, none⟩ n) := by
      have hdef : Builtin.unsafeString_ #[pt, it] ty #[.pointer (some ⟨c, d.1 + o, none⟩), .int k (n : Int)] =
          (do
            let m ← asInt (.int k (n : Int))
            if m < 0 then runtimePanic (.error "unsafe.String: len out of range")
            if m > IntKind.i64.max then unsupported (.unsafePointer "String: a length above the largest int")
            if m = 0 then pure (.string .empty)
            else if ← variablesAt ⟨c, d.1 + o, none⟩ (← elemOf pt) m.toNat then do
              let s ← loadBytes ⟨c, d.1 + o, none⟩ .empty m.toNat
              freeze ⟨c, d.1 + o, none⟩ m.toNat
              pure (.string s)
            else unsupported (.unsafePointer "String: not so many bytes at ptr")) := rfl
      rw [hdef]
      have h63' : ¬ (9223372036854775807 : Int) < (n : Int) := by omega
      have hneg : ¬ (n : Int) < 0 := by omega
      simp [asInt, asIntOf, hmax, h63', hneg, hpos, variablesAt, hsh, elemOf, run_underlying hpt, hlies, hlb]
    obtain ⟨fz', hfz⟩ : ∃ fz', w.freeze ⟨c, d.1 + o, none⟩ n = { w with heap := w.heap.setIfInBounds c (.cells cs T fz') } := by
      obtain ⟨lo, hi⟩ := fz
      refine ⟨if lo == hi then (d.1 + o, d.1 + o + n) else (min lo (d.1 + o), max hi (d.1 + o + n)), ?_⟩
      unfold World.freeze
      rw [if_neg hpos]
      congr 1
      apply Array.ext_getElem?
      intro j
      rw [Array.getElem?_modify, Array.getElem?_setIfInBounds]
      have hlt : c < w.heap.size := (r.dom b c d hb).2.2
      by_cases e : c = j
      · subst e
        rw [if_pos rfl, if_pos rfl, if_pos hlt, hw]
        rfl
      · simp [e]
    rw [hfz] at hrun
    obtain ⟨t1, t2⟩ := r.turn (o' := .cells l T row true) (x := .cells cs T fz') hb hg rfl ⟨hcl, cs, fz', rfl, g1, g2, g3, ⟨(fun e => by cases e), g4.2⟩⟩
    exact ⟨_, _, φ, hrun, .str (by simpa using e1), t1, t2⟩

theorem idxOf_eq (c : UInt8) : ∀ (l : List UInt8) (k : Nat), (match idxOf c.toNat (l.map (·.toNat)) k with | some i => (i : Int) | none => -1) = if Go.Lib.indexByte l c = -1 then -1 else Go.Lib.indexByte l c + k := by
  intro l
  induction l with
  | nil => intro k; rfl
  | cons b l ih =>
    intro k
    simp only [List.map_cons, idxOf, Go.Lib.indexByte]
    by_cases e : b = c
    · subst e
      rw [Nat.beq_refl]
      simp
    · have : Nat.beq b.toNat c.toNat = false := by
        cases hb : Nat.beq b.toNat c.toNat with
        | false => rfl
        | true => exact absurd (UInt8.toNat_inj.1 (Nat.eq_of_beq_eq_true hb)) e
      rw [this]
      simp only
      rw [ih]
      have hge := Go.Lib.indexByte_ge l c
      have hbc : (b == c) = false := by simpa using e
      simp only [hbc]
      by_cases h1 : Go.Lib.indexByte l c = -1
      · simp [h1]
      · have h2 : (Go.Lib.indexByte l c == -1) = false := by simpa using h1
        simp only [h1, h2, if_false, Bool.false_eq_true]
        rw [if_neg (by omega)]
        push_cast
        omega

theorem idxByteStr_run {l : List Nat} {c : Nat} {sv cv : Value} (hs : VR φ (.str l) sv) (hc : VR φ (.int .u8 (c : Int)) cv) (hlt : c < 256) (w : World) :
    (Extern.BytealgIndexByte.indexByte #[sv, cv]).run P w = .ok (.int .i64 (match idxOf c l 0 with | some i => (i : Int) | none => -1)) w := by
  cases hs with
  | @str _ s hb =>
    cases hc
    rw [Go.Lib.run_indexByteString, ← hb]
    have e := idxOf_eq (UInt8.ofNat c) s.data.toList 0
    have e1 : (UInt8.ofNat c).toNat = c := by simp; omega
    rw [e1] at e
    rw [e]
    have e2 : ((c : Int).toNat).toUInt8 = UInt8.ofNat c := rfl
    rw [e2]
    congr 2
    split
    · rename_i h; rw [h]
    · simp

/-- a slice of bytes turned into its own type: the block is marked -/
theorem bytesMark_ok (r : HR B L φ h w) {t e : TypeId} (ht : P.underlying t = some (.slice e)) (he : P.underlying e = some (.int .u8)) {b o n k ex : Nat} {xv : Value} (hx : VR φ (.slice b o n k ex) xv)
    {l : List AV} {T : Nat} {row fr : Bool} (hg : h.m.get b = some (.cells l T row fr)) : DoneV B L P (convert t t xv) φ h w (.slice b o n k ex) ⟨h.m.set b (.cells l T row true), h.next⟩ := by
  cases hx with
  | @slice _ _ _ _ k' c _ d hb h1 h2 h3 h4 =>
    obtain ⟨hcl, cs, fz, hw, g1, g2, g3, g4⟩ := r.obj _ c d _ hb hg
    have hsh : w.shape? c = some (T, cs.size) := by simp [World.shape?, hw]
    obtain ⟨fz', hfz⟩ : ∃ fz', w.freeze ⟨c, cs.size, none⟩ 1 = { w with heap := w.heap.setIfInBounds c (.cells cs T fz') } := by
      obtain ⟨lo, hi⟩ := fz
      refine ⟨if lo == hi then (cs.size, cs.size + 1) else (min lo cs.size, max hi (cs.size + 1)), ?_⟩
      unfold World.freeze
      rw [if_neg (by decide)]
      congr 1
      apply Array.ext_getElem?
      intro j
      rw [Array.getElem?_modify, Array.getElem?_setIfInBounds]
      have hlt : c < w.heap.size := (r.dom b c d hb).2.2
      by_cases e : c = j
      · subst e
        rw [if_pos rfl, if_pos rfl, if_pos hlt, hw]
        rfl
      · simp [e]
    have hrun : (convert t t (.slice (some ⟨c, d.1 + o, none⟩) n k')).run P w = .ok (.slice (some ⟨c, d.1 + o, none⟩) n k') (w.freeze ⟨c, cs.size, none⟩ 1) := by
      simp [convert, run_underlying ht, run_underlying he, markStringish, hsh]
    rw [hfz] at hrun
    obtain ⟨t1, t2⟩ := r.turn (o' := .cells l T row true) (x := .cells cs T fz') hb hg rfl ⟨hcl, cs, fz', rfl, g1, g2, g3, ⟨(fun e => by cases e), g4.2⟩⟩
    exact ⟨_, _, φ, hrun, .slice hb h1 h2 h3 h4, t1, t2⟩

end
end Go.Clean

