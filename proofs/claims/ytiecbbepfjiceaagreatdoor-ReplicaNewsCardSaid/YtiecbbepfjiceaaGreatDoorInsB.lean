/-
  slices.Insert at []api.Edit: the rule is sound.
-/
import Derived.Test.YtiecbbepfjiceaaGreatDoorInsA
import Derived.Test.YtiecbbepfjiceaaGreatDoorChk1
set_option linter.unusedVariables false
set_option linter.unusedSimpArgs false
namespace Go.Proofs.YtiecbbepfjiceaaGreatDoor
open Go Go.Clean

abbrev IX : Ixs := ⟨261, 178, some (100, 58)⟩
variable {B : Base} {L : Laid}
theorem EI_fs : FsOk Tryz.prog IX (EI L) := by
  intro f cf h
  simp only [EI] at h
  split at h
  · rename_i e
    have e := Nat.eq_of_beq_eq_true e
    subst e
    cases h
    exact compFunc_ok h57
  · cases h
theorem EI_defs : DefsOk Tryz.prog (EI L).defs := by intro f h; cases h
theorem EI_prims : PrimsOk B Tryz.prog (EI L) := by intro f p h; cases h
theorem EI_sound (hm : Tryz.prog.follows .mixedOrders = true) (hix : IxOk B Tryz.prog IX) {n f : Nat} {args : List AV} {h : H} {v : AV} {h' : H}
    (he : (cbN (EI L) n f).run args h ret = some (v, h')) : ∀ φ w (argv : Array Value), HR B L φ h w → VRs φ args argv.toList →
    ∀ R : Ending → World → Prop, (∀ v' w' ψ, VR ψ v v' → HR B L ψ h' w' → Step φ h w ψ h' w' → R (.returned v') w') → Calls Tryz.prog f argv w R :=
  quick_sound (E := EI L) hm hix EI_defs EI_prims EI_fs he

theorem insCells_ok {h : H} {b : Nat} {row : Bool} {l : List AV} (e : insCells h b row = some l) : h.m.get b = some (.cells l 58 row false) ∧ l.length = 11 := by
  unfold insCells at e
  split at e <;> try contradiction
  rename_i l' T r hg
  split at e <;> try contradiction
  rename_i hc
  simp only [Bool.and_eq_true] at hc
  cases e
  have h1 := Nat.eq_of_beq_eq_true hc.1.1
  have h2 := Nat.eq_of_beq_eq_true hc.1.2
  have h3 : r = row := by simpa using hc.2
  subst h2; subst h3
  exact ⟨hg, h1⟩

/-- the first and the second block of the small heap -/
def phi2 (φ : Phi) (x y : Nat × (Nat × Nat)) : Phi := ⟨fun i => if i = 0 then some x else if i = 1 then some y else none, φ.ρ, φ.M⟩

theorem small_heap {φ : Phi} {h : H} {w : World} (r : HR B L φ h w) {b bv c cv : Nat} {d dv : Nat × Nat} {l lv : List AV} (hb : φ b = some (c, d)) (hbv : φ bv = some (cv, dv)) (hne : b ≠ bv)
    (hg : h.m.get b = some (.cells l 58 true false)) (hgv : h.m.get bv = some (.cells lv 58 false false))
    {X Y : List Value} (ox : OR φ (.cells (X.map .raw) 58 true false) d w.heap[c]?) (oy : OR φ (.cells (Y.map .raw) 58 false false) dv w.heap[cv]?) :
    HR B L (phi2 φ (c, d) (cv, dv)) (hI (X.map .raw) (Y.map .raw)) w := by
  have hget : ∀ i, (hI (X.map .raw) (Y.map .raw)).m.get i = if i = 1 then some (.cells (Y.map .raw) 58 false false) else if i = 0 then some (.cells (X.map .raw) 58 true false) else none := by
    intro i
    show ((Tr.set (Tr.set .leaf 0 _) 1 _)).get i = _
    rw [Tr.get_set]
    split
    · rfl
    · rw [Tr.get_set]
      split
      · rfl
      · exact Tr.get_leaf i
  have hphi : ∀ i x, phi2 φ (c, d) (cv, dv) i = some x → (i = 0 ∧ x = (c, d)) ∨ (i = 1 ∧ x = (cv, dv)) := by
    intro i x hi
    simp only [phi2] at hi
    split at hi
    · rename_i e; cases hi; exact .inl ⟨e, rfl⟩
    · split at hi
      · rename_i e; cases hi; exact .inr ⟨e, rfl⟩
      · cases hi
  have swap : ∀ {Z : List Value} {row : Bool} {e : Nat × Nat} {x : Option Obj}, OR φ (.cells (Z.map .raw) 58 row false) e x → OR (phi2 φ (c, d) (cv, dv)) (.cells (Z.map .raw) 58 row false) e x := by
    rintro Z row e x ⟨h0, c', fz, hx, h1, h2, h3, h4⟩
    refine ⟨h0, c', fz, hx, h1, h2, ?_, h4⟩
    have e3 := raws_inv h3
    rw [e3]
    refine vrs_raws fun v hv => h4.2 v ?_
    rw [← e3] at hv
    exact List.mem_of_mem_drop (List.mem_of_mem_take hv)
  refine ⟨?_, ?_, ?_, r.laid, r.base, r.marks, ?_⟩
  · intro i c' d' hi
    rcases hphi i _ hi with ⟨rfl, e⟩ | ⟨rfl, e⟩
    · cases e; exact ⟨by show 0 < 2; omega, (r.dom b _ _ hb).2⟩
    · cases e; exact ⟨by show 1 < 2; omega, (r.dom bv _ _ hbv).2⟩
  · intro i c' d' o hi hgi
    rw [hget] at hgi
    rcases hphi i _ hi with ⟨rfl, e⟩ | ⟨rfl, e⟩
    · cases e; cases hgi; exact swap ox
    · cases e; cases hgi; exact swap oy
  · intro i j c' d1 d2 o1 o2 hi hj g1 g2 l1 l2
    rcases hphi i _ hi with ⟨rfl, e⟩ | ⟨rfl, e⟩ <;> rcases hphi j _ hj with ⟨rfl, e'⟩ | ⟨rfl, e'⟩
    · rfl
    · cases e; cases e'; exact absurd (r.inj b bv _ _ _ _ _ hb hbv hg hgv rfl rfl) hne
    · cases e; cases e'; exact absurd (r.inj b bv _ _ _ _ _ hb hbv hg hgv rfl rfl) hne
    · rfl
  · intro i o hgi
    rw [hget] at hgi
    show i < 2
    split at hgi
    · omega
    · split at hgi
      · omega
      · cases hgi

theorem mid_ok (hm : Tryz.prog.follows .mixedOrders = true) (hix : IxOk B Tryz.prog IX) {args : List AV} {h : H} {v : AV} {h' : H} (he : insMid args h = some (v, h')) {φ : Phi} {w : World} {argv : Array Value} (r : HR B L φ h w) (hv : VRs φ args argv.toList)
    {R : Ending → World → Prop} (hR : ∀ v' w' ψ, VR ψ v v' → HR B L ψ h' w' → Step φ h w ψ h' w' → R (.returned v') w') : Calls Tryz.prog 57 argv w R := by
  unfold insMid at he
  split at he <;> try contradiction
  rename_i b o n cc ex i bv ov nv cvc exv
  split at he <;> try contradiction
  rename_i ha
  split at he <;> try contradiction
  rename_i l lv hl hlv
  cases he
  simp only [insArgs, Bool.and_eq_true, Bool.not_eq_true'] at ha
  obtain ⟨⟨⟨⟨⟨⟨⟨⟨a1, a2⟩, a3⟩, a4⟩, a5⟩, a6⟩, a7⟩, a8⟩, a9⟩ := ha
  have a1 := Nat.eq_of_beq_eq_true a1
  have a2 := Nat.eq_of_beq_eq_true a2
  have a3 := Nat.eq_of_beq_eq_true a3
  have a4 := Nat.eq_of_beq_eq_true a4
  have a5 := Nat.eq_of_beq_eq_true a5
  have a6 := Nat.eq_of_beq_eq_true a6
  have a7 := Nat.eq_of_beq_eq_true a7
  have a8 := Nat.eq_of_beq_eq_true a8
  subst a1; subst a2; subst a3; subst a4; subst a5; subst a6; subst a7; subst a8
  have hne : b ≠ bv := fun e => by subst e; rw [Nat.beq_refl] at a9; cases a9
  obtain ⟨hg, hl11⟩ := insCells_ok hl
  obtain ⟨hgv, hlv11⟩ := insCells_ok hlv
  obtain ⟨s, argv1, rfl⟩ : ∃ s t, argv = ⟨s :: t⟩ := by
    cases argv with
    | mk t => cases t with
      | nil => cases hv
      | cons s t => exact ⟨s, t, rfl⟩
  cases hv with
  | cons hs hv =>
  cases hv with
  | cons hi hv =>
  cases hv with
  | cons hvv hv =>
  cases hv
  cases hi
  cases hs with
  | @slice _ _ _ _ k' c _ d hb h1 h2 h3 h4 =>
  cases hvv with
  | @slice _ _ _ _ kv' cv _ dv hbv g1 g2 g3 g4 =>
  have hkv := g3 rfl
  subst hkv
  have hroom := h4 (by decide)
  have ob := r.obj b c d _ hb hg
  have obv := r.obj bv cv dv _ hbv hgv
  obtain ⟨hcl, cs, fz, hw, p1, p2, p3, p4⟩ := ob
  obtain ⟨hclv, csv, fzv, hwv, q1, q2, q3, q4⟩ := obv
  rw [hl11] at p1 p3
  rw [hlv11] at q1 q3
  obtain ⟨X, hXe⟩ : ∃ X, X = (cs.toList.drop d.1).take 11 := ⟨_, rfl⟩
  obtain ⟨Y, hYe⟩ : ∃ Y, Y = (csv.toList.drop dv.1).take 11 := ⟨_, rfl⟩
  rw [← hXe] at p3
  rw [← hYe] at q3
  have hX11 : X.length = 11 := by rw [← p3.length]; exact hl11
  have hY11 : Y.length = 11 := by rw [← q3.length]; exact hlv11
  have hmem : ∀ {Z : List Value} {a m : Nat}, Z = (cs.toList.drop a).take m → ∀ v ∈ Z, isCellV v = true := by
    intro Z a m e v hv
    rw [e] at hv
    exact p4.2 v (List.mem_of_mem_drop (List.mem_of_mem_take hv))
  have oy : OR φ (.cells (Y.map .raw) 58 false false) dv w.heap[cv]? := by
    refine ⟨cellsOk_raws Y, csv, fzv, hwv, by simpa [hY11] using q1, ⟨q2.1, fun e => by have := q2.2 e; simpa [hY11, hlv11] using this⟩, ?_, q4⟩
    have : (Y.map AV.raw).length = 11 := by simp [hY11]
    rw [this, ← hYe]
    refine vrs_raws fun v hv => q4.2 v ?_
    rw [hYe] at hv
    exact List.mem_of_mem_drop (List.mem_of_mem_take hv)
  have hlen : ∀ {Z : List Value}, (Z.map AV.raw).length = Z.length := fun {Z} => by simp
  by_cases hk : k' = 1
  · -- no room
    subst hk
    have ox : OR φ (.cells (X.map .raw) 58 true false) d w.heap[c]? := by
      refine ⟨cellsOk_raws X, cs, fz, hw, by simpa [hX11] using p1, ⟨p2.1, fun e => by cases e⟩, ?_, p4⟩
      rw [hlen, hX11, ← hXe]
      exact vrs_raws (hmem hXe)
    have r0 := small_heap r hb hbv hne hg hgv ox oy
    refine EI_sound hm hix (ins_grow' L (X := X.map .raw) (Y := Y.map .raw) (by rw [hlen]; exact hX11) (by rw [hlen]; exact hY11)) _ w _ r0
      (.cons (.slice (φ := phi2 φ (c, d) (cv, dv)) (d := d) rfl (Nat.le_refl _) (Nat.le_refl _) (fun _ => rfl) fun e => absurd rfl e) (.cons (.int _ _) (.cons (.slice (φ := phi2 φ (c, d) (cv, dv)) (d := dv) rfl (Nat.le_refl _) (Nat.le_refl _) (fun _ => rfl) fun e => absurd rfl e) .nil))) R ?_
    intro v' w' ψ0 hv' r1 s1
    cases hv' with
    | @slice _ _ _ _ k2 cq _ dq hq u1 u2 u3 u4 =>
    have hgq : (newB (hI (X.map .raw) (Y.map .raw)) (.cells (Y.map .raw ++ X.map .raw) 58 true false)).m.get 2 = some (.cells (Y.map .raw ++ X.map .raw) 58 true false) := Tr.get_set_same _ 2 _
    have hg1 : (newB (hI (X.map .raw) (Y.map .raw)) (.cells (Y.map .raw ++ X.map .raw) 58 true false)).m.get 1 = some (.cells (Y.map .raw) 58 false false) := by
      show (Tr.set (Tr.set (Tr.set .leaf 0 _) 1 _) 2 _).get 1 = _
      rw [Tr.get_set_ne _ _ (by decide), Tr.get_set_same]
    have hg0 : (newB (hI (X.map .raw) (Y.map .raw)) (.cells (Y.map .raw ++ X.map .raw) 58 true false)).m.get 0 = some (.cells (X.map .raw) 58 true false) := by
      show (Tr.set (Tr.set (Tr.set .leaf 0 _) 1 _) 2 _).get 0 = _
      rw [Tr.get_set_ne _ _ (by decide), Tr.get_set_ne _ _ (by decide), Tr.get_set_same]
    have z0 : ψ0 0 = some (c, d) := s1.le.1 0 _ rfl
    have z1 : ψ0 1 = some (cv, dv) := s1.le.1 1 _ rfl
    have hcq : cq = c ∨ w.heap.size ≤ cq := by
      by_cases hlt : w.heap.size ≤ cq
      · exact .inr hlt
      · obtain ⟨j, e, hj⟩ := s1.own cq (by omega) ⟨2, dq, hq⟩
        simp only [phi2] at hj
        split at hj
        · cases hj; exact .inl rfl
        · split at hj
          · cases hj
            exact absurd (r1.inj 2 1 _ _ _ _ _ hq z1 hgq hg1 rfl rfl) (by decide)
          · cases hj
    obtain ⟨m1, m2⟩ := merge r hb hbv hne hg hgv hcl hclv p3 q3 (φ0 := phi2 φ (c, d) (cv, dv)) (fun i => rfl) rfl r1 s1 hq hgq hg1 hcq
    refine hR _ w' _ ?_ m1 m2
    exact .slice (put_same _ _ _ _) (Nat.le_refl _) u2 (fun e => absurd e (by decide)) u4
  · -- room
    obtain ⟨k, rfl⟩ : ∃ k, k' = k + 2 := ⟨k' - 2, by omega⟩
    have hsz : d.1 + 22 ≤ cs.size := by rw [p2.1]; omega
    obtain ⟨Z, hZe⟩ : ∃ Z, Z = (cs.toList.drop (d.1 + 11)).take 11 := ⟨_, rfl⟩
    have hZ11 : Z.length = 11 := by rw [hZe]; simp; omega
    have hXZ : X ++ Z = (cs.toList.drop d.1).take 22 := by
      rw [hXe, hZe, show 22 = 11 + 11 from rfl, List.take_add, List.drop_drop]
    have ox : OR φ (.cells ((X ++ Z).map .raw) 58 true false) d w.heap[c]? := by
      refine ⟨cellsOk_raws _, cs, fz, hw, by simp [hX11, hZ11]; omega, ⟨p2.1, fun e => by cases e⟩, ?_, p4⟩
      rw [hlen, List.length_append, hX11, hZ11, ← hXZ]
      exact vrs_raws (hmem hXZ)
    have r0 := small_heap r hb hbv hne hg hgv ox oy
    have hrun := ins_room' L k (X := X.map .raw) (Y := Y.map .raw) (Z := Z.map .raw) (by rw [hlen]; exact hX11) (by rw [hlen]; exact hY11) (by rw [hlen]; exact hZ11)
    rw [← List.map_append, ← List.map_append] at hrun
    refine EI_sound hm hix hrun _ w _ r0
      (.cons (.slice (φ := phi2 φ (c, d) (cv, dv)) (d := d) rfl (by omega) (Nat.le_refl _) (fun _ => rfl) fun e => absurd rfl e) (.cons (.int _ _) (.cons (.slice (φ := phi2 φ (c, d) (cv, dv)) (d := dv) rfl (Nat.le_refl _) (Nat.le_refl _) (fun _ => rfl) fun e => absurd rfl e) .nil))) R ?_
    intro v' w' ψ0 hv' r1 s1
    cases hv' with
    | @slice _ _ _ _ k2 cq _ dq hq u1 u2 u3 u4 =>
    have hk2 := u3 rfl
    subst hk2
    have hgq : (hI ((Y ++ X).map .raw) (Y.map .raw)).m.get 0 = some (.cells (Y.map .raw ++ X.map .raw) 58 true false) := by
      show (Tr.set (Tr.set .leaf 0 _) 1 _).get 0 = _
      rw [Tr.get_set_ne _ _ (by decide), Tr.get_set_same, List.map_append]
    have hg1 : (hI ((Y ++ X).map .raw) (Y.map .raw)).m.get 1 = some (.cells (Y.map .raw) 58 false false) := by
      show (Tr.set (Tr.set .leaf 0 _) 1 _).get 1 = _
      rw [Tr.get_set_same]
    have z0 : ψ0 0 = some (c, d) := s1.le.1 0 _ rfl
    rw [z0] at hq
    cases hq
    obtain ⟨m1, m2⟩ := merge r hb hbv hne hg hgv hcl hclv p3 q3 (φ0 := phi2 φ (c, d) (cv, dv)) (fun i => rfl) rfl r1 s1 z0 hgq hg1 (.inl rfl)
    refine hR _ w' _ ?_ m1 m2
    exact .slice (put_same _ _ _ _) (Nat.le_refl _) (by omega) (fun e => absurd e (by decide)) fun _ => hroom

/-- THE RULE IS SOUND. -/
theorem pIns_ok (hm : Tryz.prog.follows .mixedOrders = true) (hix : IxOk B Tryz.prog IX) : ∀ args h v h', pIns L args h = some (v, h') → ∀ φ w (argv : Array Value), HR B L φ h w → VRs φ args argv.toList →
    (∃ fn c, Tryz.prog.funcs[57]? = some fn ∧ (fn.name == "runtime.NumGoroutine") = false ∧ fn.body = some c) ∧
    ∀ R : Ending → World → Prop, (∀ v' w' ψ, VR ψ v v' → HR B L ψ h' w' → Step φ h w ψ h' w' → R (.returned v') w') → Calls Tryz.prog 57 argv w R := by
  intro args h v h' he φ w argv r hv
  refine ⟨?_, fun R hR => ?_⟩
  · obtain ⟨fn, c, h1, h2, h3, _⟩ := compFunc_ok h57
    exact ⟨fn, c, h1, h2, h3⟩
  · unfold pIns at he
    split at he
    · rename_i x hx
      cases he
      exact mid_ok hm hix hx r hv hR
    · exact EI_sound hm hix he φ w argv r hv R hR
end Go.Proofs.YtiecbbepfjiceaaGreatDoor
