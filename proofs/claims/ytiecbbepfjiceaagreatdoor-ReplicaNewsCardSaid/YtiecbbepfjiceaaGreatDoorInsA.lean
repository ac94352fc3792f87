/-
  slices.Insert at []api.Edit, one element before the only one: a rule of its own; elsewhere its own code.
-/
import Derived.Test.YtiecbbepfjiceaaGreatDoorLit2
import Derived.Test.YtiecbbepfjiceaaGreatDoorCleanH
import Derived.KernelRfl
set_option linter.unusedVariables false
set_option linter.unusedSimpArgs false
namespace Go.Proofs.YtiecbbepfjiceaaGreatDoor
open Go Go.Clean

def EI (L : Laid) : Env := ⟨L, fun _ => none, fun f => match Nat.beq f 57 with | true => some c57 | false => none, fun _ => false⟩
/-- the block of the slice, the block of what is inserted -/
def hI (xs ys : List AV) : H := newB (newB ⟨.leaf, 0⟩ (.cells xs 58 true false)) (.cells ys 58 false false)
def ret : AV → H → R := fun v h => some (v, h)
set_option maxRecDepth 100000
/-- no room -/
theorem ins_grow (L : Laid) (x0 x1 x2 x3 x4 x5 x6 x7 x8 x9 x10 y0 y1 y2 y3 y4 y5 y6 y7 y8 y9 y10 : AV) :
    (cbN (EI L) 3 57).run [.slice 0 0 1 1 0, .int .i64 (.ofNat 0), .slice 1 0 1 1 0] (hI [x0, x1, x2, x3, x4, x5, x6, x7, x8, x9, x10] [y0, y1, y2, y3, y4, y5, y6, y7, y8, y9, y10]) ret =
      some (.slice 2 0 2 2 11, newB (hI [x0, x1, x2, x3, x4, x5, x6, x7, x8, x9, x10] [y0, y1, y2, y3, y4, y5, y6, y7, y8, y9, y10]) (.cells [y0, y1, y2, y3, y4, y5, y6, y7, y8, y9, y10, x0, x1, x2, x3, x4, x5, x6, x7, x8, x9, x10] 58 true false)) := by kernel_rfl
/-- room -/
theorem ins_room (L : Laid) (k : Nat) (x0 x1 x2 x3 x4 x5 x6 x7 x8 x9 x10 y0 y1 y2 y3 y4 y5 y6 y7 y8 y9 y10 z0 z1 z2 z3 z4 z5 z6 z7 z8 z9 z10 : AV) :
    (cbN (EI L) 3 57).run [.slice 0 0 1 (Nat.succ (Nat.succ k)) 0, .int .i64 (.ofNat 0), .slice 1 0 1 1 0] (hI [x0, x1, x2, x3, x4, x5, x6, x7, x8, x9, x10, z0, z1, z2, z3, z4, z5, z6, z7, z8, z9, z10] [y0, y1, y2, y3, y4, y5, y6, y7, y8, y9, y10]) ret =
      some (.slice 0 0 2 (Nat.succ (Nat.succ k)) 0, hI [y0, y1, y2, y3, y4, y5, y6, y7, y8, y9, y10, x0, x1, x2, x3, x4, x5, x6, x7, x8, x9, x10] [y0, y1, y2, y3, y4, y5, y6, y7, y8, y9, y10]) := by kernel_rfl

def insArgs (b o n ex i bv ov nv cv exv : Nat) : Bool :=
  Nat.beq o 0 && Nat.beq n 1 && Nat.beq ex 11 && Nat.beq i 0 && Nat.beq ov 0 && Nat.beq nv 1 && Nat.beq cv 1 && Nat.beq exv 0 && !Nat.beq b bv
def insCells (h : H) (b : Nat) (row : Bool) : Option (List AV) :=
  match h.m.get b with
  | some (.cells l T r false) => match Nat.beq l.length 11 && Nat.beq T 58 && (r == row) with
    | true => some l
    | false => none
  | _ => none
def insMid (args : List AV) (h : H) : Option (AV × H) :=
  match args with
  | [.slice b o n _ ex, .int .i64 (.ofNat i), .slice bv ov nv cv exv] => match insArgs b o n ex i bv ov nv cv exv with
    | true => match insCells h b true, insCells h bv false with
      | some l, some lv => some (.slice h.next 0 2 2 11, newB ⟨h.m.set b .dead, h.next⟩ (.cells (lv ++ l) 58 true false))
      | _, _ => none
    | false => none
  | _ => none
noncomputable def pIns (L : Laid) (args : List AV) (h : H) : Option (AV × H) :=
  match insMid args h with
  | some r => some r
  | none => (cbN (EI L) 3 57).run args h ret

theorem list11 {α : Type} {l : List α} (h : l.length = 11) : ∃ a0 a1 a2 a3 a4 a5 a6 a7 a8 a9 a10, l = [a0, a1, a2, a3, a4, a5, a6, a7, a8, a9, a10] := by
  match l, h with
  | [a0, a1, a2, a3, a4, a5, a6, a7, a8, a9, a10], _ => exact ⟨a0, a1, a2, a3, a4, a5, a6, a7, a8, a9, a10, rfl⟩
theorem list22 {α : Type} {l : List α} (h : l.length = 22) : ∃ l1 l2 : List α, l = l1 ++ l2 ∧ l1.length = 11 ∧ l2.length = 11 := ⟨l.take 11, l.drop 11, (List.take_append_drop 11 l).symm, by simp [h], by simp [h]⟩

theorem ins_grow' (L : Laid) {X Y : List AV} (hx : X.length = 11) (hy : Y.length = 11) :
    (cbN (EI L) 3 57).run [.slice 0 0 1 1 0, .int .i64 (.ofNat 0), .slice 1 0 1 1 0] (hI X Y) ret = some (.slice 2 0 2 2 11, newB (hI X Y) (.cells (Y ++ X) 58 true false)) := by
  obtain ⟨_, _, _, _, _, _, _, _, _, _, _, rfl⟩ := list11 hx
  obtain ⟨_, _, _, _, _, _, _, _, _, _, _, rfl⟩ := list11 hy
  exact ins_grow L ..
theorem ins_room' (L : Laid) (k : Nat) {X Y Z : List AV} (hx : X.length = 11) (hy : Y.length = 11) (hz : Z.length = 11) :
    (cbN (EI L) 3 57).run [.slice 0 0 1 (Nat.succ (Nat.succ k)) 0, .int .i64 (.ofNat 0), .slice 1 0 1 1 0] (hI (X ++ Z) Y) ret = some (.slice 0 0 2 (Nat.succ (Nat.succ k)) 0, hI (Y ++ X) Y) := by
  obtain ⟨_, _, _, _, _, _, _, _, _, _, _, rfl⟩ := list11 hx
  obtain ⟨_, _, _, _, _, _, _, _, _, _, _, rfl⟩ := list11 hy
  obtain ⟨_, _, _, _, _, _, _, _, _, _, _, rfl⟩ := list11 hz
  exact ins_room L k ..
end Go.Proofs.YtiecbbepfjiceaaGreatDoor
