/-
  CLEAN, part K1: roads to the places of a map, made once for each place (the kernel keeps what they come to); values looked into.
  CLEAN, part K2: one operation, handing on what it yields.
  CLEAN, part K3: every operation of the evaluator, handing on what it yields.
-/
import Derived.Test.YtiecbbepfjiceaaGreatDoorCleanF
set_option linter.unusedVariables false
set_option linter.unusedSimpArgs false
namespace Go.Clean

abbrev R := Option (AV × H)

/-- the number, reckoned out -/
noncomputable def forceN (x : Nat) (k : Nat → R) : R := Nat.rec (motive := fun _ => R) none (fun n _ => k n) (Nat.succ x)
theorem forceN_eq (x : Nat) (k : Nat → R) : forceN x k = k x := rfl
noncomputable def boolR (b : Bool) (t f : R) : R := Bool.rec (motive := fun _ => R) f t b
theorem boolR_eq (b : Bool) (t f : R) : boolR b t f = match b with | true => t | false => f := by cases b <;> rfl

/-! ### roads in a tree -/
structure GetD (α : Type) (d : Nat) where
  run : TD α d → Option α
structure SelK (β : Type) where
  run : N8 β → β
def selK (β : Type) : Nat → SelK β
  | 0 => ⟨fun x => x.c0⟩
  | 1 => ⟨fun x => x.c1⟩
  | 2 => ⟨fun x => x.c2⟩
  | 3 => ⟨fun x => x.c3⟩
  | 4 => ⟨fun x => x.c4⟩
  | 5 => ⟨fun x => x.c5⟩
  | 6 => ⟨fun x => x.c6⟩
  | _ => ⟨fun x => x.c7⟩
theorem selK_eq {β : Type} (d : Nat) (x : N8 β) : (selK β d).run x = x.get d := by
  match d with
  | 0 | 1 | 2 | 3 | 4 | 5 | 6 => rfl
  | _ + 7 => rfl
def getD {α : Type} : (d : Nat) → Nat → GetD α d
  | 0, _ => ⟨fun x => (x : Option α)⟩
  | d + 1, n => ⟨fun x => (getD d n).run ((selK (TD α d) (n / 8 ^ d % 8)).run (x : N8 (TD α d)))⟩
theorem getD_eq {α : Type} : ∀ (d n : Nat) (x : TD α d), (getD d n).run x = TD.get d x n := by
  intro d
  induction d with
  | zero => intro n x; rfl
  | succ d ih =>
    intro n x
    show (getD d n).run ((selK (TD α d) (n / 8 ^ d % 8)).run x) = TD.get d (N8.get x (n / 8 ^ d % 8)) n
    rw [ih, selK_eq (β := TD α d) (n / 8 ^ d % 8) x]

structure PutD (α : Type) (d : Nat) where
  run : TD α d → α → (TD α d → R) → R
noncomputable def putD {α : Type} : (d : Nat) → Nat → PutD α d
  | 0, _ => ⟨fun _ v k => k (some v : Option α)⟩
  | d + 1, n => match n / 8 ^ d % 8 with
    | 0 => ⟨fun x v k => N8.rec (motive := fun _ => R) (fun c0 c1 c2 c3 c4 c5 c6 c7 => (putD d n).run c0 v fun c => k (⟨c, c1, c2, c3, c4, c5, c6, c7⟩ : N8 (TD α d))) (x : N8 (TD α d))⟩
    | 1 => ⟨fun x v k => N8.rec (motive := fun _ => R) (fun c0 c1 c2 c3 c4 c5 c6 c7 => (putD d n).run c1 v fun c => k (⟨c0, c, c2, c3, c4, c5, c6, c7⟩ : N8 (TD α d))) (x : N8 (TD α d))⟩
    | 2 => ⟨fun x v k => N8.rec (motive := fun _ => R) (fun c0 c1 c2 c3 c4 c5 c6 c7 => (putD d n).run c2 v fun c => k (⟨c0, c1, c, c3, c4, c5, c6, c7⟩ : N8 (TD α d))) (x : N8 (TD α d))⟩
    | 3 => ⟨fun x v k => N8.rec (motive := fun _ => R) (fun c0 c1 c2 c3 c4 c5 c6 c7 => (putD d n).run c3 v fun c => k (⟨c0, c1, c2, c, c4, c5, c6, c7⟩ : N8 (TD α d))) (x : N8 (TD α d))⟩
    | 4 => ⟨fun x v k => N8.rec (motive := fun _ => R) (fun c0 c1 c2 c3 c4 c5 c6 c7 => (putD d n).run c4 v fun c => k (⟨c0, c1, c2, c3, c, c5, c6, c7⟩ : N8 (TD α d))) (x : N8 (TD α d))⟩
    | 5 => ⟨fun x v k => N8.rec (motive := fun _ => R) (fun c0 c1 c2 c3 c4 c5 c6 c7 => (putD d n).run c5 v fun c => k (⟨c0, c1, c2, c3, c4, c, c6, c7⟩ : N8 (TD α d))) (x : N8 (TD α d))⟩
    | 6 => ⟨fun x v k => N8.rec (motive := fun _ => R) (fun c0 c1 c2 c3 c4 c5 c6 c7 => (putD d n).run c6 v fun c => k (⟨c0, c1, c2, c3, c4, c5, c, c7⟩ : N8 (TD α d))) (x : N8 (TD α d))⟩
    | _ => ⟨fun x v k => N8.rec (motive := fun _ => R) (fun c0 c1 c2 c3 c4 c5 c6 c7 => (putD d n).run c7 v fun c => k (⟨c0, c1, c2, c3, c4, c5, c6, c⟩ : N8 (TD α d))) (x : N8 (TD α d))⟩
theorem putD_eq {α : Type} (v : α) : ∀ (d n : Nat) (x : TD α d) (k : TD α d → R), (putD d n).run x v k = k (TD.set d x n v) := by
  intro d
  induction d with
  | zero => intro n x k; rfl
  | succ d ih =>
    intro n x k
    obtain ⟨c0, c1, c2, c3, c4, c5, c6, c7⟩ := (show N8 (TD α d) from x)
    show PutD.run (match n / 8 ^ d % 8 with
      | 0 => (⟨fun x v k => N8.rec (motive := fun _ => R) (fun c0 c1 c2 c3 c4 c5 c6 c7 => (putD d n).run c0 v fun c => k (⟨c, c1, c2, c3, c4, c5, c6, c7⟩ : N8 (TD α d))) (x : N8 (TD α d))⟩ : PutD α (d + 1))
      | 1 => (⟨fun x v k => N8.rec (motive := fun _ => R) (fun c0 c1 c2 c3 c4 c5 c6 c7 => (putD d n).run c1 v fun c => k (⟨c0, c, c2, c3, c4, c5, c6, c7⟩ : N8 (TD α d))) (x : N8 (TD α d))⟩ : PutD α (d + 1))
      | 2 => (⟨fun x v k => N8.rec (motive := fun _ => R) (fun c0 c1 c2 c3 c4 c5 c6 c7 => (putD d n).run c2 v fun c => k (⟨c0, c1, c, c3, c4, c5, c6, c7⟩ : N8 (TD α d))) (x : N8 (TD α d))⟩ : PutD α (d + 1))
      | 3 => (⟨fun x v k => N8.rec (motive := fun _ => R) (fun c0 c1 c2 c3 c4 c5 c6 c7 => (putD d n).run c3 v fun c => k (⟨c0, c1, c2, c, c4, c5, c6, c7⟩ : N8 (TD α d))) (x : N8 (TD α d))⟩ : PutD α (d + 1))
      | 4 => (⟨fun x v k => N8.rec (motive := fun _ => R) (fun c0 c1 c2 c3 c4 c5 c6 c7 => (putD d n).run c4 v fun c => k (⟨c0, c1, c2, c3, c, c5, c6, c7⟩ : N8 (TD α d))) (x : N8 (TD α d))⟩ : PutD α (d + 1))
      | 5 => (⟨fun x v k => N8.rec (motive := fun _ => R) (fun c0 c1 c2 c3 c4 c5 c6 c7 => (putD d n).run c5 v fun c => k (⟨c0, c1, c2, c3, c4, c, c6, c7⟩ : N8 (TD α d))) (x : N8 (TD α d))⟩ : PutD α (d + 1))
      | 6 => (⟨fun x v k => N8.rec (motive := fun _ => R) (fun c0 c1 c2 c3 c4 c5 c6 c7 => (putD d n).run c6 v fun c => k (⟨c0, c1, c2, c3, c4, c5, c, c7⟩ : N8 (TD α d))) (x : N8 (TD α d))⟩ : PutD α (d + 1))
      | _ => (⟨fun x v k => N8.rec (motive := fun _ => R) (fun c0 c1 c2 c3 c4 c5 c6 c7 => (putD d n).run c7 v fun c => k (⟨c0, c1, c2, c3, c4, c5, c6, c⟩ : N8 (TD α d))) (x : N8 (TD α d))⟩ : PutD α (d + 1)))
      ((⟨c0, c1, c2, c3, c4, c5, c6, c7⟩ : N8 (TD α d))) v k = k (N8.set (⟨c0, c1, c2, c3, c4, c5, c6, c7⟩ : N8 (TD α d)) (n / 8 ^ d % 8) (TD.set d (N8.get (⟨c0, c1, c2, c3, c4, c5, c6, c7⟩ : N8 (TD α d)) (n / 8 ^ d % 8)) n v))
    rcases N8.lt8 (Nat.mod_lt (n / 8 ^ d) (show 8 > 0 by omega)) with e | e | e | e | e | e | e | e <;> rw [e] <;> exact ih n _ _

/-! ### roads in a map -/
structure GetK (α : Type) where
  run : Tr α → Option α
structure PutK (α : Type) where
  run : Tr α → α → (Tr α → R) → R
def getB {α : Type} (n : Nat) : GetK α :=
  match Nat.blt n 64 with
  | true => ⟨fun t => (getD 2 n).run t.a⟩
  | false => match Nat.blt n 512 with
    | true => ⟨fun t => (getD 3 n).run t.b⟩
    | false => match Nat.blt n 32768 with
      | true => ⟨fun t => (getD 5 n).run t.c⟩
      | false => match Nat.blt n 2097152 with
        | true => ⟨fun t => (getD 7 n).run t.d⟩
        | false => ⟨fun t => t.o.get n⟩
theorem getB_eq {α : Type} (n : Nat) (t : Tr α) : (getB n).run t = t.get n := by
  unfold getB Tr.get
  cases Nat.blt n 64 with
  | true => exact getD_eq 2 n t.a
  | false => cases Nat.blt n 512 with
    | true => exact getD_eq 3 n t.b
    | false => cases Nat.blt n 32768 with
      | true => exact getD_eq 5 n t.c
      | false => cases Nat.blt n 2097152 with
        | true => exact getD_eq 7 n t.d
        | false => rfl
noncomputable def putC {α : Type} (n : Nat) : PutK α :=
  match Nat.blt n 64 with
  | true => ⟨fun t v k => Tr.rec (motive := fun _ => R) (fun a b c d o => (putD 2 n).run a v fun a => k ⟨a, b, c, d, o⟩) t⟩
  | false => match Nat.blt n 512 with
    | true => ⟨fun t v k => Tr.rec (motive := fun _ => R) (fun a b c d o => (putD 3 n).run b v fun b => k ⟨a, b, c, d, o⟩) t⟩
    | false => match Nat.blt n 32768 with
      | true => ⟨fun t v k => Tr.rec (motive := fun _ => R) (fun a b c d o => (putD 5 n).run c v fun c => k ⟨a, b, c, d, o⟩) t⟩
      | false => match Nat.blt n 2097152 with
        | true => ⟨fun t v k => Tr.rec (motive := fun _ => R) (fun a b c d o => (putD 7 n).run d v fun d => k ⟨a, b, c, d, o⟩) t⟩
        | false => ⟨fun t v k => k ⟨t.a, t.b, t.c, t.d, t.o.set n v⟩⟩
theorem putC_eq {α : Type} (n : Nat) (t : Tr α) (v : α) (k : Tr α → R) : (putC n).run t v k = k (t.set n v) := by
  obtain ⟨a, b, c, d, o⟩ := t
  unfold putC Tr.set
  cases Nat.blt n 64 with
  | true => exact putD_eq v 2 n a _
  | false => cases Nat.blt n 512 with
    | true => exact putD_eq v 3 n b _
    | false => cases Nat.blt n 32768 with
      | true => exact putD_eq v 5 n c _
      | false => cases Nat.blt n 2097152 with
        | true => exact putD_eq v 7 n d _
        | false => rfl
/-- those below 64 by a table -/
def getC {α : Type} : Nat → GetK α
  | 0 => ⟨fun t => N8.c0 (N8.c0 (t.a : N8 (N8 (Option α))) : N8 (Option α))⟩
  | 1 => ⟨fun t => N8.c1 (N8.c0 (t.a : N8 (N8 (Option α))) : N8 (Option α))⟩
  | 2 => ⟨fun t => N8.c2 (N8.c0 (t.a : N8 (N8 (Option α))) : N8 (Option α))⟩
  | 3 => ⟨fun t => N8.c3 (N8.c0 (t.a : N8 (N8 (Option α))) : N8 (Option α))⟩
  | 4 => ⟨fun t => N8.c4 (N8.c0 (t.a : N8 (N8 (Option α))) : N8 (Option α))⟩
  | 5 => ⟨fun t => N8.c5 (N8.c0 (t.a : N8 (N8 (Option α))) : N8 (Option α))⟩
  | 6 => ⟨fun t => N8.c6 (N8.c0 (t.a : N8 (N8 (Option α))) : N8 (Option α))⟩
  | 7 => ⟨fun t => N8.c7 (N8.c0 (t.a : N8 (N8 (Option α))) : N8 (Option α))⟩
  | 8 => ⟨fun t => N8.c0 (N8.c1 (t.a : N8 (N8 (Option α))) : N8 (Option α))⟩
  | 9 => ⟨fun t => N8.c1 (N8.c1 (t.a : N8 (N8 (Option α))) : N8 (Option α))⟩
  | 10 => ⟨fun t => N8.c2 (N8.c1 (t.a : N8 (N8 (Option α))) : N8 (Option α))⟩
  | 11 => ⟨fun t => N8.c3 (N8.c1 (t.a : N8 (N8 (Option α))) : N8 (Option α))⟩
  | 12 => ⟨fun t => N8.c4 (N8.c1 (t.a : N8 (N8 (Option α))) : N8 (Option α))⟩
  | 13 => ⟨fun t => N8.c5 (N8.c1 (t.a : N8 (N8 (Option α))) : N8 (Option α))⟩
  | 14 => ⟨fun t => N8.c6 (N8.c1 (t.a : N8 (N8 (Option α))) : N8 (Option α))⟩
  | 15 => ⟨fun t => N8.c7 (N8.c1 (t.a : N8 (N8 (Option α))) : N8 (Option α))⟩
  | 16 => ⟨fun t => N8.c0 (N8.c2 (t.a : N8 (N8 (Option α))) : N8 (Option α))⟩
  | 17 => ⟨fun t => N8.c1 (N8.c2 (t.a : N8 (N8 (Option α))) : N8 (Option α))⟩
  | 18 => ⟨fun t => N8.c2 (N8.c2 (t.a : N8 (N8 (Option α))) : N8 (Option α))⟩
  | 19 => ⟨fun t => N8.c3 (N8.c2 (t.a : N8 (N8 (Option α))) : N8 (Option α))⟩
  | 20 => ⟨fun t => N8.c4 (N8.c2 (t.a : N8 (N8 (Option α))) : N8 (Option α))⟩
  | 21 => ⟨fun t => N8.c5 (N8.c2 (t.a : N8 (N8 (Option α))) : N8 (Option α))⟩
  | 22 => ⟨fun t => N8.c6 (N8.c2 (t.a : N8 (N8 (Option α))) : N8 (Option α))⟩
  | 23 => ⟨fun t => N8.c7 (N8.c2 (t.a : N8 (N8 (Option α))) : N8 (Option α))⟩
  | 24 => ⟨fun t => N8.c0 (N8.c3 (t.a : N8 (N8 (Option α))) : N8 (Option α))⟩
  | 25 => ⟨fun t => N8.c1 (N8.c3 (t.a : N8 (N8 (Option α))) : N8 (Option α))⟩
  | 26 => ⟨fun t => N8.c2 (N8.c3 (t.a : N8 (N8 (Option α))) : N8 (Option α))⟩
  | 27 => ⟨fun t => N8.c3 (N8.c3 (t.a : N8 (N8 (Option α))) : N8 (Option α))⟩
  | 28 => ⟨fun t => N8.c4 (N8.c3 (t.a : N8 (N8 (Option α))) : N8 (Option α))⟩
  | 29 => ⟨fun t => N8.c5 (N8.c3 (t.a : N8 (N8 (Option α))) : N8 (Option α))⟩
  | 30 => ⟨fun t => N8.c6 (N8.c3 (t.a : N8 (N8 (Option α))) : N8 (Option α))⟩
  | 31 => ⟨fun t => N8.c7 (N8.c3 (t.a : N8 (N8 (Option α))) : N8 (Option α))⟩
  | 32 => ⟨fun t => N8.c0 (N8.c4 (t.a : N8 (N8 (Option α))) : N8 (Option α))⟩
  | 33 => ⟨fun t => N8.c1 (N8.c4 (t.a : N8 (N8 (Option α))) : N8 (Option α))⟩
  | 34 => ⟨fun t => N8.c2 (N8.c4 (t.a : N8 (N8 (Option α))) : N8 (Option α))⟩
  | 35 => ⟨fun t => N8.c3 (N8.c4 (t.a : N8 (N8 (Option α))) : N8 (Option α))⟩
  | 36 => ⟨fun t => N8.c4 (N8.c4 (t.a : N8 (N8 (Option α))) : N8 (Option α))⟩
  | 37 => ⟨fun t => N8.c5 (N8.c4 (t.a : N8 (N8 (Option α))) : N8 (Option α))⟩
  | 38 => ⟨fun t => N8.c6 (N8.c4 (t.a : N8 (N8 (Option α))) : N8 (Option α))⟩
  | 39 => ⟨fun t => N8.c7 (N8.c4 (t.a : N8 (N8 (Option α))) : N8 (Option α))⟩
  | 40 => ⟨fun t => N8.c0 (N8.c5 (t.a : N8 (N8 (Option α))) : N8 (Option α))⟩
  | 41 => ⟨fun t => N8.c1 (N8.c5 (t.a : N8 (N8 (Option α))) : N8 (Option α))⟩
  | 42 => ⟨fun t => N8.c2 (N8.c5 (t.a : N8 (N8 (Option α))) : N8 (Option α))⟩
  | 43 => ⟨fun t => N8.c3 (N8.c5 (t.a : N8 (N8 (Option α))) : N8 (Option α))⟩
  | 44 => ⟨fun t => N8.c4 (N8.c5 (t.a : N8 (N8 (Option α))) : N8 (Option α))⟩
  | 45 => ⟨fun t => N8.c5 (N8.c5 (t.a : N8 (N8 (Option α))) : N8 (Option α))⟩
  | 46 => ⟨fun t => N8.c6 (N8.c5 (t.a : N8 (N8 (Option α))) : N8 (Option α))⟩
  | 47 => ⟨fun t => N8.c7 (N8.c5 (t.a : N8 (N8 (Option α))) : N8 (Option α))⟩
  | 48 => ⟨fun t => N8.c0 (N8.c6 (t.a : N8 (N8 (Option α))) : N8 (Option α))⟩
  | 49 => ⟨fun t => N8.c1 (N8.c6 (t.a : N8 (N8 (Option α))) : N8 (Option α))⟩
  | 50 => ⟨fun t => N8.c2 (N8.c6 (t.a : N8 (N8 (Option α))) : N8 (Option α))⟩
  | 51 => ⟨fun t => N8.c3 (N8.c6 (t.a : N8 (N8 (Option α))) : N8 (Option α))⟩
  | 52 => ⟨fun t => N8.c4 (N8.c6 (t.a : N8 (N8 (Option α))) : N8 (Option α))⟩
  | 53 => ⟨fun t => N8.c5 (N8.c6 (t.a : N8 (N8 (Option α))) : N8 (Option α))⟩
  | 54 => ⟨fun t => N8.c6 (N8.c6 (t.a : N8 (N8 (Option α))) : N8 (Option α))⟩
  | 55 => ⟨fun t => N8.c7 (N8.c6 (t.a : N8 (N8 (Option α))) : N8 (Option α))⟩
  | 56 => ⟨fun t => N8.c0 (N8.c7 (t.a : N8 (N8 (Option α))) : N8 (Option α))⟩
  | 57 => ⟨fun t => N8.c1 (N8.c7 (t.a : N8 (N8 (Option α))) : N8 (Option α))⟩
  | 58 => ⟨fun t => N8.c2 (N8.c7 (t.a : N8 (N8 (Option α))) : N8 (Option α))⟩
  | 59 => ⟨fun t => N8.c3 (N8.c7 (t.a : N8 (N8 (Option α))) : N8 (Option α))⟩
  | 60 => ⟨fun t => N8.c4 (N8.c7 (t.a : N8 (N8 (Option α))) : N8 (Option α))⟩
  | 61 => ⟨fun t => N8.c5 (N8.c7 (t.a : N8 (N8 (Option α))) : N8 (Option α))⟩
  | 62 => ⟨fun t => N8.c6 (N8.c7 (t.a : N8 (N8 (Option α))) : N8 (Option α))⟩
  | 63 => ⟨fun t => N8.c7 (N8.c7 (t.a : N8 (N8 (Option α))) : N8 (Option α))⟩
  | n => getB n
theorem getC_eq {α : Type} (n : Nat) (t : Tr α) : (getC n).run t = t.get n := by
  unfold getC
  split <;> first | rfl | exact getB_eq _ t
noncomputable def putT {α : Type} : Nat → PutK α
  | 0 => ⟨fun t v k => Tr.rec (motive := fun _ => R) (fun a b c d o => N8.rec (motive := fun _ => R) (fun c0 c1 c2 c3 c4 c5 c6 c7 => N8.rec (motive := fun _ => R) (fun d0 d1 d2 d3 d4 d5 d6 d7 => k ⟨(⟨(⟨(some v : Option α), d1, d2, d3, d4, d5, d6, d7⟩ : N8 (Option α)), c1, c2, c3, c4, c5, c6, c7⟩ : N8 (N8 (Option α))), b, c, d, o⟩) (c0 : N8 (Option α))) (a : N8 (N8 (Option α)))) t⟩
  | 1 => ⟨fun t v k => Tr.rec (motive := fun _ => R) (fun a b c d o => N8.rec (motive := fun _ => R) (fun c0 c1 c2 c3 c4 c5 c6 c7 => N8.rec (motive := fun _ => R) (fun d0 d1 d2 d3 d4 d5 d6 d7 => k ⟨(⟨(⟨d0, (some v : Option α), d2, d3, d4, d5, d6, d7⟩ : N8 (Option α)), c1, c2, c3, c4, c5, c6, c7⟩ : N8 (N8 (Option α))), b, c, d, o⟩) (c0 : N8 (Option α))) (a : N8 (N8 (Option α)))) t⟩
  | 2 => ⟨fun t v k => Tr.rec (motive := fun _ => R) (fun a b c d o => N8.rec (motive := fun _ => R) (fun c0 c1 c2 c3 c4 c5 c6 c7 => N8.rec (motive := fun _ => R) (fun d0 d1 d2 d3 d4 d5 d6 d7 => k ⟨(⟨(⟨d0, d1, (some v : Option α), d3, d4, d5, d6, d7⟩ : N8 (Option α)), c1, c2, c3, c4, c5, c6, c7⟩ : N8 (N8 (Option α))), b, c, d, o⟩) (c0 : N8 (Option α))) (a : N8 (N8 (Option α)))) t⟩
  | 3 => ⟨fun t v k => Tr.rec (motive := fun _ => R) (fun a b c d o => N8.rec (motive := fun _ => R) (fun c0 c1 c2 c3 c4 c5 c6 c7 => N8.rec (motive := fun _ => R) (fun d0 d1 d2 d3 d4 d5 d6 d7 => k ⟨(⟨(⟨d0, d1, d2, (some v : Option α), d4, d5, d6, d7⟩ : N8 (Option α)), c1, c2, c3, c4, c5, c6, c7⟩ : N8 (N8 (Option α))), b, c, d, o⟩) (c0 : N8 (Option α))) (a : N8 (N8 (Option α)))) t⟩
  | 4 => ⟨fun t v k => Tr.rec (motive := fun _ => R) (fun a b c d o => N8.rec (motive := fun _ => R) (fun c0 c1 c2 c3 c4 c5 c6 c7 => N8.rec (motive := fun _ => R) (fun d0 d1 d2 d3 d4 d5 d6 d7 => k ⟨(⟨(⟨d0, d1, d2, d3, (some v : Option α), d5, d6, d7⟩ : N8 (Option α)), c1, c2, c3, c4, c5, c6, c7⟩ : N8 (N8 (Option α))), b, c, d, o⟩) (c0 : N8 (Option α))) (a : N8 (N8 (Option α)))) t⟩
  | 5 => ⟨fun t v k => Tr.rec (motive := fun _ => R) (fun a b c d o => N8.rec (motive := fun _ => R) (fun c0 c1 c2 c3 c4 c5 c6 c7 => N8.rec (motive := fun _ => R) (fun d0 d1 d2 d3 d4 d5 d6 d7 => k ⟨(⟨(⟨d0, d1, d2, d3, d4, (some v : Option α), d6, d7⟩ : N8 (Option α)), c1, c2, c3, c4, c5, c6, c7⟩ : N8 (N8 (Option α))), b, c, d, o⟩) (c0 : N8 (Option α))) (a : N8 (N8 (Option α)))) t⟩
  | 6 => ⟨fun t v k => Tr.rec (motive := fun _ => R) (fun a b c d o => N8.rec (motive := fun _ => R) (fun c0 c1 c2 c3 c4 c5 c6 c7 => N8.rec (motive := fun _ => R) (fun d0 d1 d2 d3 d4 d5 d6 d7 => k ⟨(⟨(⟨d0, d1, d2, d3, d4, d5, (some v : Option α), d7⟩ : N8 (Option α)), c1, c2, c3, c4, c5, c6, c7⟩ : N8 (N8 (Option α))), b, c, d, o⟩) (c0 : N8 (Option α))) (a : N8 (N8 (Option α)))) t⟩
  | 7 => ⟨fun t v k => Tr.rec (motive := fun _ => R) (fun a b c d o => N8.rec (motive := fun _ => R) (fun c0 c1 c2 c3 c4 c5 c6 c7 => N8.rec (motive := fun _ => R) (fun d0 d1 d2 d3 d4 d5 d6 d7 => k ⟨(⟨(⟨d0, d1, d2, d3, d4, d5, d6, (some v : Option α)⟩ : N8 (Option α)), c1, c2, c3, c4, c5, c6, c7⟩ : N8 (N8 (Option α))), b, c, d, o⟩) (c0 : N8 (Option α))) (a : N8 (N8 (Option α)))) t⟩
  | 8 => ⟨fun t v k => Tr.rec (motive := fun _ => R) (fun a b c d o => N8.rec (motive := fun _ => R) (fun c0 c1 c2 c3 c4 c5 c6 c7 => N8.rec (motive := fun _ => R) (fun d0 d1 d2 d3 d4 d5 d6 d7 => k ⟨(⟨c0, (⟨(some v : Option α), d1, d2, d3, d4, d5, d6, d7⟩ : N8 (Option α)), c2, c3, c4, c5, c6, c7⟩ : N8 (N8 (Option α))), b, c, d, o⟩) (c1 : N8 (Option α))) (a : N8 (N8 (Option α)))) t⟩
  | 9 => ⟨fun t v k => Tr.rec (motive := fun _ => R) (fun a b c d o => N8.rec (motive := fun _ => R) (fun c0 c1 c2 c3 c4 c5 c6 c7 => N8.rec (motive := fun _ => R) (fun d0 d1 d2 d3 d4 d5 d6 d7 => k ⟨(⟨c0, (⟨d0, (some v : Option α), d2, d3, d4, d5, d6, d7⟩ : N8 (Option α)), c2, c3, c4, c5, c6, c7⟩ : N8 (N8 (Option α))), b, c, d, o⟩) (c1 : N8 (Option α))) (a : N8 (N8 (Option α)))) t⟩
  | 10 => ⟨fun t v k => Tr.rec (motive := fun _ => R) (fun a b c d o => N8.rec (motive := fun _ => R) (fun c0 c1 c2 c3 c4 c5 c6 c7 => N8.rec (motive := fun _ => R) (fun d0 d1 d2 d3 d4 d5 d6 d7 => k ⟨(⟨c0, (⟨d0, d1, (some v : Option α), d3, d4, d5, d6, d7⟩ : N8 (Option α)), c2, c3, c4, c5, c6, c7⟩ : N8 (N8 (Option α))), b, c, d, o⟩) (c1 : N8 (Option α))) (a : N8 (N8 (Option α)))) t⟩
  | 11 => ⟨fun t v k => Tr.rec (motive := fun _ => R) (fun a b c d o => N8.rec (motive := fun _ => R) (fun c0 c1 c2 c3 c4 c5 c6 c7 => N8.rec (motive := fun _ => R) (fun d0 d1 d2 d3 d4 d5 d6 d7 => k ⟨(⟨c0, (⟨d0, d1, d2, (some v : Option α), d4, d5, d6, d7⟩ : N8 (Option α)), c2, c3, c4, c5, c6, c7⟩ : N8 (N8 (Option α))), b, c, d, o⟩) (c1 : N8 (Option α))) (a : N8 (N8 (Option α)))) t⟩
  | 12 => ⟨fun t v k => Tr.rec (motive := fun _ => R) (fun a b c d o => N8.rec (motive := fun _ => R) (fun c0 c1 c2 c3 c4 c5 c6 c7 => N8.rec (motive := fun _ => R) (fun d0 d1 d2 d3 d4 d5 d6 d7 => k ⟨(⟨c0, (⟨d0, d1, d2, d3, (some v : Option α), d5, d6, d7⟩ : N8 (Option α)), c2, c3, c4, c5, c6, c7⟩ : N8 (N8 (Option α))), b, c, d, o⟩) (c1 : N8 (Option α))) (a : N8 (N8 (Option α)))) t⟩
  | 13 => ⟨fun t v k => Tr.rec (motive := fun _ => R) (fun a b c d o => N8.rec (motive := fun _ => R) (fun c0 c1 c2 c3 c4 c5 c6 c7 => N8.rec (motive := fun _ => R) (fun d0 d1 d2 d3 d4 d5 d6 d7 => k ⟨(⟨c0, (⟨d0, d1, d2, d3, d4, (some v : Option α), d6, d7⟩ : N8 (Option α)), c2, c3, c4, c5, c6, c7⟩ : N8 (N8 (Option α))), b, c, d, o⟩) (c1 : N8 (Option α))) (a : N8 (N8 (Option α)))) t⟩
  | 14 => ⟨fun t v k => Tr.rec (motive := fun _ => R) (fun a b c d o => N8.rec (motive := fun _ => R) (fun c0 c1 c2 c3 c4 c5 c6 c7 => N8.rec (motive := fun _ => R) (fun d0 d1 d2 d3 d4 d5 d6 d7 => k ⟨(⟨c0, (⟨d0, d1, d2, d3, d4, d5, (some v : Option α), d7⟩ : N8 (Option α)), c2, c3, c4, c5, c6, c7⟩ : N8 (N8 (Option α))), b, c, d, o⟩) (c1 : N8 (Option α))) (a : N8 (N8 (Option α)))) t⟩
  | 15 => ⟨fun t v k => Tr.rec (motive := fun _ => R) (fun a b c d o => N8.rec (motive := fun _ => R) (fun c0 c1 c2 c3 c4 c5 c6 c7 => N8.rec (motive := fun _ => R) (fun d0 d1 d2 d3 d4 d5 d6 d7 => k ⟨(⟨c0, (⟨d0, d1, d2, d3, d4, d5, d6, (some v : Option α)⟩ : N8 (Option α)), c2, c3, c4, c5, c6, c7⟩ : N8 (N8 (Option α))), b, c, d, o⟩) (c1 : N8 (Option α))) (a : N8 (N8 (Option α)))) t⟩
  | 16 => ⟨fun t v k => Tr.rec (motive := fun _ => R) (fun a b c d o => N8.rec (motive := fun _ => R) (fun c0 c1 c2 c3 c4 c5 c6 c7 => N8.rec (motive := fun _ => R) (fun d0 d1 d2 d3 d4 d5 d6 d7 => k ⟨(⟨c0, c1, (⟨(some v : Option α), d1, d2, d3, d4, d5, d6, d7⟩ : N8 (Option α)), c3, c4, c5, c6, c7⟩ : N8 (N8 (Option α))), b, c, d, o⟩) (c2 : N8 (Option α))) (a : N8 (N8 (Option α)))) t⟩
  | 17 => ⟨fun t v k => Tr.rec (motive := fun _ => R) (fun a b c d o => N8.rec (motive := fun _ => R) (fun c0 c1 c2 c3 c4 c5 c6 c7 => N8.rec (motive := fun _ => R) (fun d0 d1 d2 d3 d4 d5 d6 d7 => k ⟨(⟨c0, c1, (⟨d0, (some v : Option α), d2, d3, d4, d5, d6, d7⟩ : N8 (Option α)), c3, c4, c5, c6, c7⟩ : N8 (N8 (Option α))), b, c, d, o⟩) (c2 : N8 (Option α))) (a : N8 (N8 (Option α)))) t⟩
  | 18 => ⟨fun t v k => Tr.rec (motive := fun _ => R) (fun a b c d o => N8.rec (motive := fun _ => R) (fun c0 c1 c2 c3 c4 c5 c6 c7 => N8.rec (motive := fun _ => R) (fun d0 d1 d2 d3 d4 d5 d6 d7 => k ⟨(⟨c0, c1, (⟨d0, d1, (some v : Option α), d3, d4, d5, d6, d7⟩ : N8 (Option α)), c3, c4, c5, c6, c7⟩ : N8 (N8 (Option α))), b, c, d, o⟩) (c2 : N8 (Option α))) (a : N8 (N8 (Option α)))) t⟩
  | 19 => ⟨fun t v k => Tr.rec (motive := fun _ => R) (fun a b c d o => N8.rec (motive := fun _ => R) (fun c0 c1 c2 c3 c4 c5 c6 c7 => N8.rec (motive := fun _ => R) (fun d0 d1 d2 d3 d4 d5 d6 d7 => k ⟨(⟨c0, c1, (⟨d0, d1, d2, (some v : Option α), d4, d5, d6, d7⟩ : N8 (Option α)), c3, c4, c5, c6, c7⟩ : N8 (N8 (Option α))), b, c, d, o⟩) (c2 : N8 (Option α))) (a : N8 (N8 (Option α)))) t⟩
  | 20 => ⟨fun t v k => Tr.rec (motive := fun _ => R) (fun a b c d o => N8.rec (motive := fun _ => R) (fun c0 c1 c2 c3 c4 c5 c6 c7 => N8.rec (motive := fun _ => R) (fun d0 d1 d2 d3 d4 d5 d6 d7 => k ⟨(⟨c0, c1, (⟨d0, d1, d2, d3, (some v : Option α), d5, d6, d7⟩ : N8 (Option α)), c3, c4, c5, c6, c7⟩ : N8 (N8 (Option α))), b, c, d, o⟩) (c2 : N8 (Option α))) (a : N8 (N8 (Option α)))) t⟩
  | 21 => ⟨fun t v k => Tr.rec (motive := fun _ => R) (fun a b c d o => N8.rec (motive := fun _ => R) (fun c0 c1 c2 c3 c4 c5 c6 c7 => N8.rec (motive := fun _ => R) (fun d0 d1 d2 d3 d4 d5 d6 d7 => k ⟨(⟨c0, c1, (⟨d0, d1, d2, d3, d4, (some v : Option α), d6, d7⟩ : N8 (Option α)), c3, c4, c5, c6, c7⟩ : N8 (N8 (Option α))), b, c, d, o⟩) (c2 : N8 (Option α))) (a : N8 (N8 (Option α)))) t⟩
  | 22 => ⟨fun t v k => Tr.rec (motive := fun _ => R) (fun a b c d o => N8.rec (motive := fun _ => R) (fun c0 c1 c2 c3 c4 c5 c6 c7 => N8.rec (motive := fun _ => R) (fun d0 d1 d2 d3 d4 d5 d6 d7 => k ⟨(⟨c0, c1, (⟨d0, d1, d2, d3, d4, d5, (some v : Option α), d7⟩ : N8 (Option α)), c3, c4, c5, c6, c7⟩ : N8 (N8 (Option α))), b, c, d, o⟩) (c2 : N8 (Option α))) (a : N8 (N8 (Option α)))) t⟩
  | 23 => ⟨fun t v k => Tr.rec (motive := fun _ => R) (fun a b c d o => N8.rec (motive := fun _ => R) (fun c0 c1 c2 c3 c4 c5 c6 c7 => N8.rec (motive := fun _ => R) (fun d0 d1 d2 d3 d4 d5 d6 d7 => k ⟨(⟨c0, c1, (⟨d0, d1, d2, d3, d4, d5, d6, (some v : Option α)⟩ : N8 (Option α)), c3, c4, c5, c6, c7⟩ : N8 (N8 (Option α))), b, c, d, o⟩) (c2 : N8 (Option α))) (a : N8 (N8 (Option α)))) t⟩
  | 24 => ⟨fun t v k => Tr.rec (motive := fun _ => R) (fun a b c d o => N8.rec (motive := fun _ => R) (fun c0 c1 c2 c3 c4 c5 c6 c7 => N8.rec (motive := fun _ => R) (fun d0 d1 d2 d3 d4 d5 d6 d7 => k ⟨(⟨c0, c1, c2, (⟨(some v : Option α), d1, d2, d3, d4, d5, d6, d7⟩ : N8 (Option α)), c4, c5, c6, c7⟩ : N8 (N8 (Option α))), b, c, d, o⟩) (c3 : N8 (Option α))) (a : N8 (N8 (Option α)))) t⟩
  | 25 => ⟨fun t v k => Tr.rec (motive := fun _ => R) (fun a b c d o => N8.rec (motive := fun _ => R) (fun c0 c1 c2 c3 c4 c5 c6 c7 => N8.rec (motive := fun _ => R) (fun d0 d1 d2 d3 d4 d5 d6 d7 => k ⟨(⟨c0, c1, c2, (⟨d0, (some v : Option α), d2, d3, d4, d5, d6, d7⟩ : N8 (Option α)), c4, c5, c6, c7⟩ : N8 (N8 (Option α))), b, c, d, o⟩) (c3 : N8 (Option α))) (a : N8 (N8 (Option α)))) t⟩
  | 26 => ⟨fun t v k => Tr.rec (motive := fun _ => R) (fun a b c d o => N8.rec (motive := fun _ => R) (fun c0 c1 c2 c3 c4 c5 c6 c7 => N8.rec (motive := fun _ => R) (fun d0 d1 d2 d3 d4 d5 d6 d7 => k ⟨(⟨c0, c1, c2, (⟨d0, d1, (some v : Option α), d3, d4, d5, d6, d7⟩ : N8 (Option α)), c4, c5, c6, c7⟩ : N8 (N8 (Option α))), b, c, d, o⟩) (c3 : N8 (Option α))) (a : N8 (N8 (Option α)))) t⟩
  | 27 => ⟨fun t v k => Tr.rec (motive := fun _ => R) (fun a b c d o => N8.rec (motive := fun _ => R) (fun c0 c1 c2 c3 c4 c5 c6 c7 => N8.rec (motive := fun _ => R) (fun d0 d1 d2 d3 d4 d5 d6 d7 => k ⟨(⟨c0, c1, c2, (⟨d0, d1, d2, (some v : Option α), d4, d5, d6, d7⟩ : N8 (Option α)), c4, c5, c6, c7⟩ : N8 (N8 (Option α))), b, c, d, o⟩) (c3 : N8 (Option α))) (a : N8 (N8 (Option α)))) t⟩
  | 28 => ⟨fun t v k => Tr.rec (motive := fun _ => R) (fun a b c d o => N8.rec (motive := fun _ => R) (fun c0 c1 c2 c3 c4 c5 c6 c7 => N8.rec (motive := fun _ => R) (fun d0 d1 d2 d3 d4 d5 d6 d7 => k ⟨(⟨c0, c1, c2, (⟨d0, d1, d2, d3, (some v : Option α), d5, d6, d7⟩ : N8 (Option α)), c4, c5, c6, c7⟩ : N8 (N8 (Option α))), b, c, d, o⟩) (c3 : N8 (Option α))) (a : N8 (N8 (Option α)))) t⟩
  | 29 => ⟨fun t v k => Tr.rec (motive := fun _ => R) (fun a b c d o => N8.rec (motive := fun _ => R) (fun c0 c1 c2 c3 c4 c5 c6 c7 => N8.rec (motive := fun _ => R) (fun d0 d1 d2 d3 d4 d5 d6 d7 => k ⟨(⟨c0, c1, c2, (⟨d0, d1, d2, d3, d4, (some v : Option α), d6, d7⟩ : N8 (Option α)), c4, c5, c6, c7⟩ : N8 (N8 (Option α))), b, c, d, o⟩) (c3 : N8 (Option α))) (a : N8 (N8 (Option α)))) t⟩
  | 30 => ⟨fun t v k => Tr.rec (motive := fun _ => R) (fun a b c d o => N8.rec (motive := fun _ => R) (fun c0 c1 c2 c3 c4 c5 c6 c7 => N8.rec (motive := fun _ => R) (fun d0 d1 d2 d3 d4 d5 d6 d7 => k ⟨(⟨c0, c1, c2, (⟨d0, d1, d2, d3, d4, d5, (some v : Option α), d7⟩ : N8 (Option α)), c4, c5, c6, c7⟩ : N8 (N8 (Option α))), b, c, d, o⟩) (c3 : N8 (Option α))) (a : N8 (N8 (Option α)))) t⟩
  | 31 => ⟨fun t v k => Tr.rec (motive := fun _ => R) (fun a b c d o => N8.rec (motive := fun _ => R) (fun c0 c1 c2 c3 c4 c5 c6 c7 => N8.rec (motive := fun _ => R) (fun d0 d1 d2 d3 d4 d5 d6 d7 => k ⟨(⟨c0, c1, c2, (⟨d0, d1, d2, d3, d4, d5, d6, (some v : Option α)⟩ : N8 (Option α)), c4, c5, c6, c7⟩ : N8 (N8 (Option α))), b, c, d, o⟩) (c3 : N8 (Option α))) (a : N8 (N8 (Option α)))) t⟩
  | 32 => ⟨fun t v k => Tr.rec (motive := fun _ => R) (fun a b c d o => N8.rec (motive := fun _ => R) (fun c0 c1 c2 c3 c4 c5 c6 c7 => N8.rec (motive := fun _ => R) (fun d0 d1 d2 d3 d4 d5 d6 d7 => k ⟨(⟨c0, c1, c2, c3, (⟨(some v : Option α), d1, d2, d3, d4, d5, d6, d7⟩ : N8 (Option α)), c5, c6, c7⟩ : N8 (N8 (Option α))), b, c, d, o⟩) (c4 : N8 (Option α))) (a : N8 (N8 (Option α)))) t⟩
  | 33 => ⟨fun t v k => Tr.rec (motive := fun _ => R) (fun a b c d o => N8.rec (motive := fun _ => R) (fun c0 c1 c2 c3 c4 c5 c6 c7 => N8.rec (motive := fun _ => R) (fun d0 d1 d2 d3 d4 d5 d6 d7 => k ⟨(⟨c0, c1, c2, c3, (⟨d0, (some v : Option α), d2, d3, d4, d5, d6, d7⟩ : N8 (Option α)), c5, c6, c7⟩ : N8 (N8 (Option α))), b, c, d, o⟩) (c4 : N8 (Option α))) (a : N8 (N8 (Option α)))) t⟩
  | 34 => ⟨fun t v k => Tr.rec (motive := fun _ => R) (fun a b c d o => N8.rec (motive := fun _ => R) (fun c0 c1 c2 c3 c4 c5 c6 c7 => N8.rec (motive := fun _ => R) (fun d0 d1 d2 d3 d4 d5 d6 d7 => k ⟨(⟨c0, c1, c2, c3, (⟨d0, d1, (some v : Option α), d3, d4, d5, d6, d7⟩ : N8 (Option α)), c5, c6, c7⟩ : N8 (N8 (Option α))), b, c, d, o⟩) (c4 : N8 (Option α))) (a : N8 (N8 (Option α)))) t⟩
  | 35 => ⟨fun t v k => Tr.rec (motive := fun _ => R) (fun a b c d o => N8.rec (motive := fun _ => R) (fun c0 c1 c2 c3 c4 c5 c6 c7 => N8.rec (motive := fun _ => R) (fun d0 d1 d2 d3 d4 d5 d6 d7 => k ⟨(⟨c0, c1, c2, c3, (⟨d0, d1, d2, (some v : Option α), d4, d5, d6, d7⟩ : N8 (Option α)), c5, c6, c7⟩ : N8 (N8 (Option α))), b, c, d, o⟩) (c4 : N8 (Option α))) (a : N8 (N8 (Option α)))) t⟩
  | 36 => ⟨fun t v k => Tr.rec (motive := fun _ => R) (fun a b c d o => N8.rec (motive := fun _ => R) (fun c0 c1 c2 c3 c4 c5 c6 c7 => N8.rec (motive := fun _ => R) (fun d0 d1 d2 d3 d4 d5 d6 d7 => k ⟨(⟨c0, c1, c2, c3, (⟨d0, d1, d2, d3, (some v : Option α), d5, d6, d7⟩ : N8 (Option α)), c5, c6, c7⟩ : N8 (N8 (Option α))), b, c, d, o⟩) (c4 : N8 (Option α))) (a : N8 (N8 (Option α)))) t⟩
  | 37 => ⟨fun t v k => Tr.rec (motive := fun _ => R) (fun a b c d o => N8.rec (motive := fun _ => R) (fun c0 c1 c2 c3 c4 c5 c6 c7 => N8.rec (motive := fun _ => R) (fun d0 d1 d2 d3 d4 d5 d6 d7 => k ⟨(⟨c0, c1, c2, c3, (⟨d0, d1, d2, d3, d4, (some v : Option α), d6, d7⟩ : N8 (Option α)), c5, c6, c7⟩ : N8 (N8 (Option α))), b, c, d, o⟩) (c4 : N8 (Option α))) (a : N8 (N8 (Option α)))) t⟩
  | 38 => ⟨fun t v k => Tr.rec (motive := fun _ => R) (fun a b c d o => N8.rec (motive := fun _ => R) (fun c0 c1 c2 c3 c4 c5 c6 c7 => N8.rec (motive := fun _ => R) (fun d0 d1 d2 d3 d4 d5 d6 d7 => k ⟨(⟨c0, c1, c2, c3, (⟨d0, d1, d2, d3, d4, d5, (some v : Option α), d7⟩ : N8 (Option α)), c5, c6, c7⟩ : N8 (N8 (Option α))), b, c, d, o⟩) (c4 : N8 (Option α))) (a : N8 (N8 (Option α)))) t⟩
  | 39 => ⟨fun t v k => Tr.rec (motive := fun _ => R) (fun a b c d o => N8.rec (motive := fun _ => R) (fun c0 c1 c2 c3 c4 c5 c6 c7 => N8.rec (motive := fun _ => R) (fun d0 d1 d2 d3 d4 d5 d6 d7 => k ⟨(⟨c0, c1, c2, c3, (⟨d0, d1, d2, d3, d4, d5, d6, (some v : Option α)⟩ : N8 (Option α)), c5, c6, c7⟩ : N8 (N8 (Option α))), b, c, d, o⟩) (c4 : N8 (Option α))) (a : N8 (N8 (Option α)))) t⟩
  | 40 => ⟨fun t v k => Tr.rec (motive := fun _ => R) (fun a b c d o => N8.rec (motive := fun _ => R) (fun c0 c1 c2 c3 c4 c5 c6 c7 => N8.rec (motive := fun _ => R) (fun d0 d1 d2 d3 d4 d5 d6 d7 => k ⟨(⟨c0, c1, c2, c3, c4, (⟨(some v : Option α), d1, d2, d3, d4, d5, d6, d7⟩ : N8 (Option α)), c6, c7⟩ : N8 (N8 (Option α))), b, c, d, o⟩) (c5 : N8 (Option α))) (a : N8 (N8 (Option α)))) t⟩
  | 41 => ⟨fun t v k => Tr.rec (motive := fun _ => R) (fun a b c d o => N8.rec (motive := fun _ => R) (fun c0 c1 c2 c3 c4 c5 c6 c7 => N8.rec (motive := fun _ => R) (fun d0 d1 d2 d3 d4 d5 d6 d7 => k ⟨(⟨c0, c1, c2, c3, c4, (⟨d0, (some v : Option α), d2, d3, d4, d5, d6, d7⟩ : N8 (Option α)), c6, c7⟩ : N8 (N8 (Option α))), b, c, d, o⟩) (c5 : N8 (Option α))) (a : N8 (N8 (Option α)))) t⟩
  | 42 => ⟨fun t v k => Tr.rec (motive := fun _ => R) (fun a b c d o => N8.rec (motive := fun _ => R) (fun c0 c1 c2 c3 c4 c5 c6 c7 => N8.rec (motive := fun _ => R) (fun d0 d1 d2 d3 d4 d5 d6 d7 => k ⟨(⟨c0, c1, c2, c3, c4, (⟨d0, d1, (some v : Option α), d3, d4, d5, d6, d7⟩ : N8 (Option α)), c6, c7⟩ : N8 (N8 (Option α))), b, c, d, o⟩) (c5 : N8 (Option α))) (a : N8 (N8 (Option α)))) t⟩
  | 43 => ⟨fun t v k => Tr.rec (motive := fun _ => R) (fun a b c d o => N8.rec (motive := fun _ => R) (fun c0 c1 c2 c3 c4 c5 c6 c7 => N8.rec (motive := fun _ => R) (fun d0 d1 d2 d3 d4 d5 d6 d7 => k ⟨(⟨c0, c1, c2, c3, c4, (⟨d0, d1, d2, (some v : Option α), d4, d5, d6, d7⟩ : N8 (Option α)), c6, c7⟩ : N8 (N8 (Option α))), b, c, d, o⟩) (c5 : N8 (Option α))) (a : N8 (N8 (Option α)))) t⟩
  | 44 => ⟨fun t v k => Tr.rec (motive := fun _ => R) (fun a b c d o => N8.rec (motive := fun _ => R) (fun c0 c1 c2 c3 c4 c5 c6 c7 => N8.rec (motive := fun _ => R) (fun d0 d1 d2 d3 d4 d5 d6 d7 => k ⟨(⟨c0, c1, c2, c3, c4, (⟨d0, d1, d2, d3, (some v : Option α), d5, d6, d7⟩ : N8 (Option α)), c6, c7⟩ : N8 (N8 (Option α))), b, c, d, o⟩) (c5 : N8 (Option α))) (a : N8 (N8 (Option α)))) t⟩
  | 45 => ⟨fun t v k => Tr.rec (motive := fun _ => R) (fun a b c d o => N8.rec (motive := fun _ => R) (fun c0 c1 c2 c3 c4 c5 c6 c7 => N8.rec (motive := fun _ => R) (fun d0 d1 d2 d3 d4 d5 d6 d7 => k ⟨(⟨c0, c1, c2, c3, c4, (⟨d0, d1, d2, d3, d4, (some v : Option α), d6, d7⟩ : N8 (Option α)), c6, c7⟩ : N8 (N8 (Option α))), b, c, d, o⟩) (c5 : N8 (Option α))) (a : N8 (N8 (Option α)))) t⟩
  | 46 => ⟨fun t v k => Tr.rec (motive := fun _ => R) (fun a b c d o => N8.rec (motive := fun _ => R) (fun c0 c1 c2 c3 c4 c5 c6 c7 => N8.rec (motive := fun _ => R) (fun d0 d1 d2 d3 d4 d5 d6 d7 => k ⟨(⟨c0, c1, c2, c3, c4, (⟨d0, d1, d2, d3, d4, d5, (some v : Option α), d7⟩ : N8 (Option α)), c6, c7⟩ : N8 (N8 (Option α))), b, c, d, o⟩) (c5 : N8 (Option α))) (a : N8 (N8 (Option α)))) t⟩
  | 47 => ⟨fun t v k => Tr.rec (motive := fun _ => R) (fun a b c d o => N8.rec (motive := fun _ => R) (fun c0 c1 c2 c3 c4 c5 c6 c7 => N8.rec (motive := fun _ => R) (fun d0 d1 d2 d3 d4 d5 d6 d7 => k ⟨(⟨c0, c1, c2, c3, c4, (⟨d0, d1, d2, d3, d4, d5, d6, (some v : Option α)⟩ : N8 (Option α)), c6, c7⟩ : N8 (N8 (Option α))), b, c, d, o⟩) (c5 : N8 (Option α))) (a : N8 (N8 (Option α)))) t⟩
  | 48 => ⟨fun t v k => Tr.rec (motive := fun _ => R) (fun a b c d o => N8.rec (motive := fun _ => R) (fun c0 c1 c2 c3 c4 c5 c6 c7 => N8.rec (motive := fun _ => R) (fun d0 d1 d2 d3 d4 d5 d6 d7 => k ⟨(⟨c0, c1, c2, c3, c4, c5, (⟨(some v : Option α), d1, d2, d3, d4, d5, d6, d7⟩ : N8 (Option α)), c7⟩ : N8 (N8 (Option α))), b, c, d, o⟩) (c6 : N8 (Option α))) (a : N8 (N8 (Option α)))) t⟩
  | 49 => ⟨fun t v k => Tr.rec (motive := fun _ => R) (fun a b c d o => N8.rec (motive := fun _ => R) (fun c0 c1 c2 c3 c4 c5 c6 c7 => N8.rec (motive := fun _ => R) (fun d0 d1 d2 d3 d4 d5 d6 d7 => k ⟨(⟨c0, c1, c2, c3, c4, c5, (⟨d0, (some v : Option α), d2, d3, d4, d5, d6, d7⟩ : N8 (Option α)), c7⟩ : N8 (N8 (Option α))), b, c, d, o⟩) (c6 : N8 (Option α))) (a : N8 (N8 (Option α)))) t⟩
  | 50 => ⟨fun t v k => Tr.rec (motive := fun _ => R) (fun a b c d o => N8.rec (motive := fun _ => R) (fun c0 c1 c2 c3 c4 c5 c6 c7 => N8.rec (motive := fun _ => R) (fun d0 d1 d2 d3 d4 d5 d6 d7 => k ⟨(⟨c0, c1, c2, c3, c4, c5, (⟨d0, d1, (some v : Option α), d3, d4, d5, d6, d7⟩ : N8 (Option α)), c7⟩ : N8 (N8 (Option α))), b, c, d, o⟩) (c6 : N8 (Option α))) (a : N8 (N8 (Option α)))) t⟩
  | 51 => ⟨fun t v k => Tr.rec (motive := fun _ => R) (fun a b c d o => N8.rec (motive := fun _ => R) (fun c0 c1 c2 c3 c4 c5 c6 c7 => N8.rec (motive := fun _ => R) (fun d0 d1 d2 d3 d4 d5 d6 d7 => k ⟨(⟨c0, c1, c2, c3, c4, c5, (⟨d0, d1, d2, (some v : Option α), d4, d5, d6, d7⟩ : N8 (Option α)), c7⟩ : N8 (N8 (Option α))), b, c, d, o⟩) (c6 : N8 (Option α))) (a : N8 (N8 (Option α)))) t⟩
  | 52 => ⟨fun t v k => Tr.rec (motive := fun _ => R) (fun a b c d o => N8.rec (motive := fun _ => R) (fun c0 c1 c2 c3 c4 c5 c6 c7 => N8.rec (motive := fun _ => R) (fun d0 d1 d2 d3 d4 d5 d6 d7 => k ⟨(⟨c0, c1, c2, c3, c4, c5, (⟨d0, d1, d2, d3, (some v : Option α), d5, d6, d7⟩ : N8 (Option α)), c7⟩ : N8 (N8 (Option α))), b, c, d, o⟩) (c6 : N8 (Option α))) (a : N8 (N8 (Option α)))) t⟩
  | 53 => ⟨fun t v k => Tr.rec (motive := fun _ => R) (fun a b c d o => N8.rec (motive := fun _ => R) (fun c0 c1 c2 c3 c4 c5 c6 c7 => N8.rec (motive := fun _ => R) (fun d0 d1 d2 d3 d4 d5 d6 d7 => k ⟨(⟨c0, c1, c2, c3, c4, c5, (⟨d0, d1, d2, d3, d4, (some v : Option α), d6, d7⟩ : N8 (Option α)), c7⟩ : N8 (N8 (Option α))), b, c, d, o⟩) (c6 : N8 (Option α))) (a : N8 (N8 (Option α)))) t⟩
  | 54 => ⟨fun t v k => Tr.rec (motive := fun _ => R) (fun a b c d o => N8.rec (motive := fun _ => R) (fun c0 c1 c2 c3 c4 c5 c6 c7 => N8.rec (motive := fun _ => R) (fun d0 d1 d2 d3 d4 d5 d6 d7 => k ⟨(⟨c0, c1, c2, c3, c4, c5, (⟨d0, d1, d2, d3, d4, d5, (some v : Option α), d7⟩ : N8 (Option α)), c7⟩ : N8 (N8 (Option α))), b, c, d, o⟩) (c6 : N8 (Option α))) (a : N8 (N8 (Option α)))) t⟩
  | 55 => ⟨fun t v k => Tr.rec (motive := fun _ => R) (fun a b c d o => N8.rec (motive := fun _ => R) (fun c0 c1 c2 c3 c4 c5 c6 c7 => N8.rec (motive := fun _ => R) (fun d0 d1 d2 d3 d4 d5 d6 d7 => k ⟨(⟨c0, c1, c2, c3, c4, c5, (⟨d0, d1, d2, d3, d4, d5, d6, (some v : Option α)⟩ : N8 (Option α)), c7⟩ : N8 (N8 (Option α))), b, c, d, o⟩) (c6 : N8 (Option α))) (a : N8 (N8 (Option α)))) t⟩
  | 56 => ⟨fun t v k => Tr.rec (motive := fun _ => R) (fun a b c d o => N8.rec (motive := fun _ => R) (fun c0 c1 c2 c3 c4 c5 c6 c7 => N8.rec (motive := fun _ => R) (fun d0 d1 d2 d3 d4 d5 d6 d7 => k ⟨(⟨c0, c1, c2, c3, c4, c5, c6, (⟨(some v : Option α), d1, d2, d3, d4, d5, d6, d7⟩ : N8 (Option α))⟩ : N8 (N8 (Option α))), b, c, d, o⟩) (c7 : N8 (Option α))) (a : N8 (N8 (Option α)))) t⟩
  | 57 => ⟨fun t v k => Tr.rec (motive := fun _ => R) (fun a b c d o => N8.rec (motive := fun _ => R) (fun c0 c1 c2 c3 c4 c5 c6 c7 => N8.rec (motive := fun _ => R) (fun d0 d1 d2 d3 d4 d5 d6 d7 => k ⟨(⟨c0, c1, c2, c3, c4, c5, c6, (⟨d0, (some v : Option α), d2, d3, d4, d5, d6, d7⟩ : N8 (Option α))⟩ : N8 (N8 (Option α))), b, c, d, o⟩) (c7 : N8 (Option α))) (a : N8 (N8 (Option α)))) t⟩
  | 58 => ⟨fun t v k => Tr.rec (motive := fun _ => R) (fun a b c d o => N8.rec (motive := fun _ => R) (fun c0 c1 c2 c3 c4 c5 c6 c7 => N8.rec (motive := fun _ => R) (fun d0 d1 d2 d3 d4 d5 d6 d7 => k ⟨(⟨c0, c1, c2, c3, c4, c5, c6, (⟨d0, d1, (some v : Option α), d3, d4, d5, d6, d7⟩ : N8 (Option α))⟩ : N8 (N8 (Option α))), b, c, d, o⟩) (c7 : N8 (Option α))) (a : N8 (N8 (Option α)))) t⟩
  | 59 => ⟨fun t v k => Tr.rec (motive := fun _ => R) (fun a b c d o => N8.rec (motive := fun _ => R) (fun c0 c1 c2 c3 c4 c5 c6 c7 => N8.rec (motive := fun _ => R) (fun d0 d1 d2 d3 d4 d5 d6 d7 => k ⟨(⟨c0, c1, c2, c3, c4, c5, c6, (⟨d0, d1, d2, (some v : Option α), d4, d5, d6, d7⟩ : N8 (Option α))⟩ : N8 (N8 (Option α))), b, c, d, o⟩) (c7 : N8 (Option α))) (a : N8 (N8 (Option α)))) t⟩
  | 60 => ⟨fun t v k => Tr.rec (motive := fun _ => R) (fun a b c d o => N8.rec (motive := fun _ => R) (fun c0 c1 c2 c3 c4 c5 c6 c7 => N8.rec (motive := fun _ => R) (fun d0 d1 d2 d3 d4 d5 d6 d7 => k ⟨(⟨c0, c1, c2, c3, c4, c5, c6, (⟨d0, d1, d2, d3, (some v : Option α), d5, d6, d7⟩ : N8 (Option α))⟩ : N8 (N8 (Option α))), b, c, d, o⟩) (c7 : N8 (Option α))) (a : N8 (N8 (Option α)))) t⟩
  | 61 => ⟨fun t v k => Tr.rec (motive := fun _ => R) (fun a b c d o => N8.rec (motive := fun _ => R) (fun c0 c1 c2 c3 c4 c5 c6 c7 => N8.rec (motive := fun _ => R) (fun d0 d1 d2 d3 d4 d5 d6 d7 => k ⟨(⟨c0, c1, c2, c3, c4, c5, c6, (⟨d0, d1, d2, d3, d4, (some v : Option α), d6, d7⟩ : N8 (Option α))⟩ : N8 (N8 (Option α))), b, c, d, o⟩) (c7 : N8 (Option α))) (a : N8 (N8 (Option α)))) t⟩
  | 62 => ⟨fun t v k => Tr.rec (motive := fun _ => R) (fun a b c d o => N8.rec (motive := fun _ => R) (fun c0 c1 c2 c3 c4 c5 c6 c7 => N8.rec (motive := fun _ => R) (fun d0 d1 d2 d3 d4 d5 d6 d7 => k ⟨(⟨c0, c1, c2, c3, c4, c5, c6, (⟨d0, d1, d2, d3, d4, d5, (some v : Option α), d7⟩ : N8 (Option α))⟩ : N8 (N8 (Option α))), b, c, d, o⟩) (c7 : N8 (Option α))) (a : N8 (N8 (Option α)))) t⟩
  | 63 => ⟨fun t v k => Tr.rec (motive := fun _ => R) (fun a b c d o => N8.rec (motive := fun _ => R) (fun c0 c1 c2 c3 c4 c5 c6 c7 => N8.rec (motive := fun _ => R) (fun d0 d1 d2 d3 d4 d5 d6 d7 => k ⟨(⟨c0, c1, c2, c3, c4, c5, c6, (⟨d0, d1, d2, d3, d4, d5, d6, (some v : Option α)⟩ : N8 (Option α))⟩ : N8 (N8 (Option α))), b, c, d, o⟩) (c7 : N8 (Option α))) (a : N8 (N8 (Option α)))) t⟩
  | n => putC n
theorem putT_eq {α : Type} (n : Nat) (t : Tr α) (v : α) (k : Tr α → R) : (putT n).run t v k = k (t.set n v) := by
  unfold putT
  split <;> first | rfl | exact putC_eq _ t v k
end Go.Clean

namespace Go.Clean
abbrev KV := AV → H → R
abbrev KM := Tr AV → H → R
abbrev KX := XA → Tr AV → H → R

noncomputable def onBool (v : AV) (k : Bool → R) : R := AV.rec (motive_1 := fun _ => R) (motive_2 := fun _ => R) (fun b => k b) (fun _ _ => none) (fun _ => none) (none) (fun _ _ => none) (fun _ _ => none) (none) (fun _ _ _ _ _ => none) (none) (none) (fun _ => none) (none) (fun _ _ _ _ _ => none) (none) (fun _ _ _ => none) (fun _ _ => none) (fun _ _ => none) (fun _ => none) (fun _ => none) (fun _ _ _ => none) none (fun _ _ _ _ => none) v
theorem onBool_eq (v : AV) (k : Bool → R) : onBool v k = match v with | .bool b => k b | _ => none := by cases v <;> rfl

noncomputable def onInt (v : AV) (k : IntKind → Int → R) : R := AV.rec (motive_1 := fun _ => R) (motive_2 := fun _ => R) (fun _ => none) (fun kk n => k kk n) (fun _ => none) (none) (fun _ _ => none) (fun _ _ => none) (none) (fun _ _ _ _ _ => none) (none) (none) (fun _ => none) (none) (fun _ _ _ _ _ => none) (none) (fun _ _ _ => none) (fun _ _ => none) (fun _ _ => none) (fun _ => none) (fun _ => none) (fun _ _ _ => none) none (fun _ _ _ _ => none) v
theorem onInt_eq (v : AV) (k : IntKind → Int → R) : onInt v k = match v with | .int kk n => k kk n | _ => none := by cases v <;> rfl

noncomputable def onStr (v : AV) (k : (List Nat) → R) : R := AV.rec (motive_1 := fun _ => R) (motive_2 := fun _ => R) (fun _ => none) (fun _ _ => none) (fun s => k s) (none) (fun _ _ => none) (fun _ _ => none) (none) (fun _ _ _ _ _ => none) (none) (none) (fun _ => none) (none) (fun _ _ _ _ _ => none) (none) (fun _ _ _ => none) (fun _ _ => none) (fun _ _ => none) (fun _ => none) (fun _ => none) (fun _ _ _ => none) none (fun _ _ _ _ => none) v
theorem onStr_eq (v : AV) (k : (List Nat) → R) : onStr v k = match v with | .str s => k s | _ => none := by cases v <;> rfl

noncomputable def onPtr (v : AV) (k : Nat → Nat → R) : R := AV.rec (motive_1 := fun _ => R) (motive_2 := fun _ => R) (fun _ => none) (fun _ _ => none) (fun _ => none) (none) (fun b o => k b o) (fun _ _ => none) (none) (fun _ _ _ _ _ => none) (none) (none) (fun _ => none) (none) (fun _ _ _ _ _ => none) (none) (fun _ _ _ => none) (fun _ _ => none) (fun _ _ => none) (fun _ => none) (fun _ => none) (fun _ _ _ => none) none (fun _ _ _ _ => none) v
theorem onPtr_eq (v : AV) (k : Nat → Nat → R) : onPtr v k = match v with | .ptr b o => k b o | _ => none := by cases v <;> rfl

noncomputable def onSlice (v : AV) (k : Nat → Nat → Nat → Nat → Nat → R) : R := AV.rec (motive_1 := fun _ => R) (motive_2 := fun _ => R) (fun _ => none) (fun _ _ => none) (fun _ => none) (none) (fun _ _ => none) (fun _ _ => none) (none) (fun b o n c ex => k b o n c ex) (none) (none) (fun _ => none) (none) (fun _ _ _ _ _ => none) (none) (fun _ _ _ => none) (fun _ _ => none) (fun _ _ => none) (fun _ => none) (fun _ => none) (fun _ _ _ => none) none (fun _ _ _ _ => none) v
theorem onSlice_eq (v : AV) (k : Nat → Nat → Nat → Nat → Nat → R) : onSlice v k = match v with | .slice b o n c ex => k b o n c ex | _ => none := by cases v <;> rfl

noncomputable def onFunc (v : AV) (k : Nat → (List AV) → (List AV) → R) : R := AV.rec (motive_1 := fun _ => R) (motive_2 := fun _ => R) (fun _ => none) (fun _ _ => none) (fun _ => none) (none) (fun _ _ => none) (fun _ _ => none) (none) (fun _ _ _ _ _ => none) (none) (none) (fun _ => none) (none) (fun f p q _ _ => k f p q) (none) (fun _ _ _ => none) (fun _ _ => none) (fun _ _ => none) (fun _ => none) (fun _ => none) (fun _ _ _ => none) none (fun _ _ _ _ => none) v
theorem onFunc_eq (v : AV) (k : Nat → (List AV) → (List AV) → R) : onFunc v k = match v with | .func f p q => k f p q | _ => none := by cases v <;> rfl

noncomputable def onAgg (v : AV) (k : (List AV) → R) : R := AV.rec (motive_1 := fun _ => R) (motive_2 := fun _ => R) (fun _ => none) (fun _ _ => none) (fun _ => none) (none) (fun _ _ => none) (fun _ _ => none) (none) (fun _ _ _ _ _ => none) (none) (none) (fun _ => none) (none) (fun _ _ _ _ _ => none) (none) (fun _ _ _ => none) (fun l _ => k l) (fun _ _ => none) (fun _ => none) (fun _ => none) (fun _ _ _ => none) none (fun _ _ _ _ => none) v
theorem onAgg_eq (v : AV) (k : (List AV) → R) : onAgg v k = match v with | .agg l => k l | _ => none := by cases v <;> rfl

noncomputable def onTuple (v : AV) (k : (List AV) → R) : R := AV.rec (motive_1 := fun _ => R) (motive_2 := fun _ => R) (fun _ => none) (fun _ _ => none) (fun _ => none) (none) (fun _ _ => none) (fun _ _ => none) (none) (fun _ _ _ _ _ => none) (none) (none) (fun _ => none) (none) (fun _ _ _ _ _ => none) (none) (fun _ _ _ => none) (fun _ _ => none) (fun l _ => k l) (fun _ => none) (fun _ => none) (fun _ _ _ => none) none (fun _ _ _ _ => none) v
theorem onTuple_eq (v : AV) (k : (List AV) → R) : onTuple v k = match v with | .tuple l => k l | _ => none := by cases v <;> rfl

noncomputable def onMap (v : AV) (k : Nat → R) : R := AV.rec (motive_1 := fun _ => R) (motive_2 := fun _ => R) (fun _ => none) (fun _ _ => none) (fun _ => none) (none) (fun _ _ => none) (fun _ _ => none) (none) (fun _ _ _ _ _ => none) (none) (none) (fun b => k b) (none) (fun _ _ _ _ _ => none) (none) (fun _ _ _ => none) (fun _ _ => none) (fun _ _ => none) (fun _ => none) (fun _ => none) (fun _ _ _ => none) none (fun _ _ _ _ => none) v
theorem onMap_eq (v : AV) (k : Nat → R) : onMap v k = match v with | .map b => k b | _ => none := by cases v <;> rfl

/-- going on with what an evaluation yields -/
def bindO (r : Option (AV × H)) (k : KV) : R :=
  match r with
  | some (v, h) => k v h
  | none => none

/-! ### operands -/
structure AoK where
  run : Tr AV → (AV → R) → R
noncomputable def aoK : AO → AoK
  | .tmp t => ⟨fun m k => Option.rec (motive := fun _ => R) (k (.tuple [])) k ((getC t).run m)⟩
  | .const v => ⟨fun _ k => k v⟩
  | .func f => ⟨fun _ k => k (.func f [] [])⟩
  | .glob g => ⟨fun _ k => k (.gptr g 0)⟩
theorem aoK_eq (o : AO) (m : Tr AV) (k : AV → R) : (aoK o).run m k = k (aev o m) := by
  cases o with
  | tmp t =>
    show Option.rec (motive := fun _ => R) (k (.tuple [])) k ((getC t).run m) = k (match m.get t with | some v => v | none => .undef)
    rw [getC_eq]
    cases m.get t <;> rfl
  | const v => rfl
  | func f => rfl
  | glob g => rfl

/-! ### lists -/
noncomputable def lenR {α : Type} (l : List α) : Nat := List.rec (motive := fun _ => Nat) (nat_lit 0) (fun _ _ ih => Nat.succ ih) l
theorem lenR_eq {α : Type} (l : List α) : lenR l = l.length := by
  induction l with
  | nil => rfl
  | cons x l ih => exact congrArg Nat.succ ih
noncomputable def nthR {α : Type} (l : List α) (n : Nat) (k : α → R) : R :=
  List.rec (motive := fun _ => Nat → R) (fun _ => none) (fun x _ ih n => Nat.rec (motive := fun _ => R) (k x) (fun n _ => ih n) n) l n
theorem nthR_eq {α : Type} (l : List α) (n : Nat) (k : α → R) : nthR l n k = match nth l n with | some v => k v | none => none := by
  induction l generalizing n with
  | nil => rfl
  | cons x l ih =>
    cases n with
    | zero => rfl
    | succ n => exact ih n
noncomputable def eqR (a b : List Nat) : Bool :=
  List.rec (motive := fun _ => List Nat → Bool) (fun b => List.rec (motive := fun _ => Bool) true (fun _ _ _ => false) b)
    (fun x _ ih b => List.rec (motive := fun _ => Bool) false (fun y l _ => Bool.rec (motive := fun _ => Bool) false (ih l) (Nat.beq x y)) b) a b
theorem eqR_eq (a b : List Nat) : eqR a b = eqNats a b := by
  induction a generalizing b with
  | nil => cases b <;> rfl
  | cons x a ih =>
    cases b with
    | nil => rfl
    | cons y b =>
      show Bool.rec (motive := fun _ => Bool) false (eqR a b) (Nat.beq x y) = match Nat.beq x y with | true => eqNats a b | false => false
      rw [ih]
      cases Nat.beq x y <;> rfl
/-- the list, laid out -/
noncomputable def listR {α : Type} (l : List α) (k : List α → R) : R :=
  List.rec (motive := fun _ => (List α → R) → R) (fun k => k []) (fun x _ ih k => ih fun r => k (x :: r)) l k
theorem listR_eq {α : Type} (l : List α) (k : List α → R) : listR l k = k l := by
  induction l generalizing k with
  | nil => rfl
  | cons x l ih => exact ih _
noncomputable def appR {α : Type} (l m : List α) (k : List α → R) : R :=
  List.rec (motive := fun _ => (List α → R) → R) (fun k => k m) (fun x _ ih k => ih fun r => k (x :: r)) l k
theorem appR_eq {α : Type} (l m : List α) (k : List α → R) : appR l m k = k (l ++ m) := by
  induction l generalizing k with
  | nil => rfl
  | cons x l ih => exact ih _
noncomputable def takeR {α : Type} (l : List α) (n : Nat) (k : List α → R) : R :=
  List.rec (motive := fun _ => Nat → (List α → R) → R) (fun n k => Nat.rec (motive := fun _ => R) (k []) (fun _ _ => none) n)
    (fun x _ ih n k => Nat.rec (motive := fun _ => R) (k []) (fun n _ => ih n fun r => k (x :: r)) n) l n k
theorem takeR_eq {α : Type} (l : List α) (n : Nat) (k : List α → R) : takeR l n k = match takeN l n with | some r => k r | none => none := by
  induction l generalizing n k with
  | nil => cases n <;> rfl
  | cons x l ih =>
    cases n with
    | zero => rfl
    | succ n =>
      show takeR l n (fun r => k (x :: r)) = match (match takeN l n with | some r => some (x :: r) | none => none) with | some r => k r | none => none
      rw [ih]
      cases takeN l n <;> rfl
noncomputable def dropR {α : Type} (l : List α) (n : Nat) (k : List α → R) : R :=
  List.rec (motive := fun _ => Nat → R) (fun n => Nat.rec (motive := fun _ => R) (k []) (fun _ _ => none) n)
    (fun x l ih n => Nat.rec (motive := fun _ => R) (k (x :: l)) (fun n _ => ih n) n) l n
theorem dropR_eq {α : Type} (l : List α) (n : Nat) (k : List α → R) : dropR l n k = match dropN l n with | some r => k r | none => none := by
  induction l generalizing n with
  | nil => cases n <;> rfl
  | cons x l ih =>
    cases n with
    | zero => rfl
    | succ n => exact ih n
noncomputable def subR {α : Type} (l : List α) (o n : Nat) (k : List α → R) : R := dropR l o fun l => takeR l n k
theorem subR_eq {α : Type} (l : List α) (o n : Nat) (k : List α → R) : subR l o n k = match sub l o n with | some r => k r | none => none := by
  unfold subR sub
  rw [dropR_eq]
  cases dropN l o with
  | none => rfl
  | some r => exact takeR_eq r n k
noncomputable def spl0R {α : Type} (vs l : List α) (k : List α → R) : R :=
  List.rec (motive := fun _ => List α → (List α → R) → R) (fun l k => k l)
    (fun v _ ih l k => List.rec (motive := fun _ => R) none (fun _ l _ => ih l fun r => k (v :: r)) l) vs l k
theorem spl0R_eq {α : Type} (vs l : List α) (k : List α → R) : spl0R vs l k = match splice0 l vs with | some r => k r | none => none := by
  induction vs generalizing l k with
  | nil => cases l <;> rfl
  | cons v vs ih =>
    cases l with
    | nil => rfl
    | cons x l =>
      show spl0R vs l (fun r => k (v :: r)) = match (match splice0 l vs with | some r => some (v :: r) | none => none) with | some r => k r | none => none
      rw [ih]
      cases splice0 l vs <;> rfl
noncomputable def splR {α : Type} (l : List α) (o : Nat) (vs : List α) (k : List α → R) : R :=
  List.rec (motive := fun _ => Nat → (List α → R) → R) (fun o k => Nat.rec (motive := fun _ => R) (spl0R vs [] k) (fun _ _ => none) o)
    (fun x l ih o k => Nat.rec (motive := fun _ => R) (spl0R vs (x :: l) k) (fun o _ => ih o fun r => k (x :: r)) o) l o k
theorem splR_eq {α : Type} (l : List α) (o : Nat) (vs : List α) (k : List α → R) : splR l o vs k = match splice l o vs with | some r => k r | none => none := by
  induction l generalizing o k with
  | nil =>
    cases o with
    | zero => exact spl0R_eq vs [] k
    | succ o => rfl
  | cons x l ih =>
    cases o with
    | zero => exact spl0R_eq vs (x :: l) k
    | succ o =>
      show splR l o vs (fun r => k (x :: r)) = match (match splice l o vs with | some r => some (x :: r) | none => none) with | some r => k r | none => none
      rw [ih]
      cases splice l o vs <;> rfl

/-! ### heaps -/
noncomputable def newR (h : H) (o : AObj) (k : Nat → H → R) : R :=
  H.rec (motive := fun _ => R) (fun m n => (putC n).run m o fun m => forceN (Nat.succ n) fun s => k n ⟨m, s⟩) h
theorem newR_eq (h : H) (o : AObj) (k : Nat → H → R) : newR h o k = k h.next (newB h o) := by
  obtain ⟨m, n⟩ := h
  show (putC n).run m o (fun m => forceN (Nat.succ n) fun s => k n ⟨m, s⟩) = _
  rw [putC_eq, forceN_eq]
  rfl
/-- the cells of a block -/
noncomputable def onCells (h : H) (b : Nat) (k : List AV → Nat → Bool → Bool → R) : R :=
  Option.rec (motive := fun _ => R) none (fun o => AObj.rec (motive := fun _ => R) k (fun _ => none) none o) ((getB b).run h.m)
theorem onCells_eq (h : H) (b : Nat) (k : List AV → Nat → Bool → Bool → R) : onCells h b k = match h.m.get b with | some (.cells l T row fr) => k l T row fr | _ => none := by
  unfold onCells
  rw [getB_eq]
  cases h.m.get b with
  | none => rfl
  | some o => cases o <;> rfl
noncomputable def setR (h : H) (b : Nat) (o : AObj) (k : H → R) : R :=
  H.rec (motive := fun _ => R) (fun m n => (putC b).run m o fun m => k ⟨m, n⟩) h
theorem setR_eq (h : H) (b : Nat) (o : AObj) (k : H → R) : setR h b o k = k ⟨h.m.set b o, h.next⟩ := by
  obtain ⟨m, n⟩ := h
  show (putC b).run m o (fun m => k ⟨m, n⟩) = _
  rw [putC_eq]
noncomputable def cellsR (h : H) (b o n : Nat) (k : List AV → R) : R := onCells h b fun l _ _ _ => subR l o n k
theorem cellsR_eq (h : H) (b o n : Nat) (k : List AV → R) : cellsR h b o n k = match cellsAt h b o n with | some l => k l | none => none := by
  unfold cellsR cellsAt
  rw [onCells_eq]
  cases h.m.get b with
  | none => rfl
  | some x =>
    cases x with
    | cells l T row fr =>
      show subR l o n k = match sub l o n with | some l => k l | none => none
      rw [subR_eq]
      cases sub l o n <;> rfl
    | map es => rfl
    | dead => rfl
noncomputable def setCellsR (h : H) (b o : Nat) (vs : List AV) (k : H → R) : R :=
  onCells h b fun l T row fr => Bool.rec (motive := fun _ => R) (splR l o vs fun l => setR h b (.cells l T row false) k) none fr
theorem setCellsR_eq (h : H) (b o : Nat) (vs : List AV) (k : H → R) : setCellsR h b o vs k = match setCells h b o vs with | some h' => k h' | none => none := by
  unfold setCellsR setCells
  rw [onCells_eq]
  cases h.m.get b with
  | none => rfl
  | some x =>
    cases x with
    | cells l T row fr =>
      cases fr with
      | true => rfl
      | false =>
        show splR l o vs (fun l => setR h b (.cells l T row false) k) = _
        rw [splR_eq]
        simp only
        cases splice l o vs with
        | none => rfl
        | some r => exact setR_eq h b _ k
    | map es => rfl
    | dead => rfl

/-! ### values -/
noncomputable def isCellR (v : AV) : Bool := AV.rec (motive_1 := fun _ => Bool) (motive_2 := fun _ => Bool) (fun _ => true) (fun _ _ => true) (fun _ => true) true (fun _ _ => true) (fun _ _ => true) true (fun _ _ _ _ _ => true) true true (fun _ => true) true (fun _ _ _ _ _ => true) true (fun _ _ _ => true) (fun _ _ => false) (fun _ _ => false) (fun _ => true) (fun _ => true) (fun _ _ _ => true) true (fun _ _ _ _ => true) v
theorem isCellR_eq (v : AV) : isCellR v = v.isCell := by cases v <;> rfl
noncomputable def cellsOkR (l : List AV) : Bool := List.rec (motive := fun _ => Bool) true (fun x _ ih => Bool.rec (motive := fun _ => Bool) false ih (isCellR x)) l
theorem cellsOkR_eq (l : List AV) : cellsOkR l = cellsOk l := by
  induction l with
  | nil => rfl
  | cons x l ih =>
    show Bool.rec (motive := fun _ => Bool) false (cellsOkR l) (isCellR x) = match x.isCell with | true => cellsOk l | false => false
    rw [ih, isCellR_eq]
    cases x.isCell <;> rfl
noncomputable def cellsAR (v : AV) : List AV := AV.rec (motive_1 := fun _ => List AV) (motive_2 := fun _ => List AV) (fun _ => [v]) (fun _ _ => [v]) (fun _ => [v]) [v] (fun _ _ => [v]) (fun _ _ => [v]) [v] (fun _ _ _ _ _ => [v]) [v] [v] (fun _ => [v]) [v] (fun _ _ _ _ _ => [v]) [v] (fun _ _ _ => [v]) (fun l _ => l) (fun _ _ => [v]) (fun _ => [v]) (fun _ => [v]) (fun _ _ _ => [v]) [] (fun _ _ _ _ => []) v
theorem cellsAR_eq (v : AV) : cellsAR v = cellsA v := by cases v <;> rfl

/-! ### numbers -/
noncomputable def topR (k : IntKind) : Nat := IntKind.rec (motive := fun _ => Nat) (nat_lit 127) (nat_lit 32767) (nat_lit 2147483647) (nat_lit 9223372036854775807) (nat_lit 255) (nat_lit 65535) (nat_lit 4294967295) (nat_lit 18446744073709551615) k
theorem topR_eq (k : IntKind) : topR k = topN k := by cases k <;> rfl
noncomputable def lowR (k : IntKind) : Nat := IntKind.rec (motive := fun _ => Nat) (nat_lit 128) (nat_lit 32768) (nat_lit 2147483648) (nat_lit 9223372036854775808) (nat_lit 0) (nat_lit 0) (nat_lit 0) (nat_lit 0) k
theorem lowR_eq (k : IntKind) : lowR k = lowN k := by cases k <;> rfl
noncomputable def bitsR (k : IntKind) : Nat := IntKind.rec (motive := fun _ => Nat) (nat_lit 8) (nat_lit 16) (nat_lit 32) (nat_lit 64) (nat_lit 8) (nat_lit 16) (nat_lit 32) (nat_lit 64) k
theorem bitsR_eq (k : IntKind) : bitsR k = k.bits := by cases k <;> rfl
noncomputable def bitKind (k : IntKind) : Bool := IntKind.rec (motive := fun _ => Bool) false false false true true true true true k
noncomputable def isKi8 (k : IntKind) : Bool := IntKind.rec (motive := fun _ => Bool) true false false false false false false false k
noncomputable def isKi16 (k : IntKind) : Bool := IntKind.rec (motive := fun _ => Bool) false true false false false false false false k
noncomputable def isKi32 (k : IntKind) : Bool := IntKind.rec (motive := fun _ => Bool) false false true false false false false false k
noncomputable def isKi64 (k : IntKind) : Bool := IntKind.rec (motive := fun _ => Bool) false false false true false false false false k
noncomputable def isKu8 (k : IntKind) : Bool := IntKind.rec (motive := fun _ => Bool) false false false false true false false false k
noncomputable def isKu16 (k : IntKind) : Bool := IntKind.rec (motive := fun _ => Bool) false false false false false true false false k
noncomputable def isKu32 (k : IntKind) : Bool := IntKind.rec (motive := fun _ => Bool) false false false false false false true false k
noncomputable def isKu64 (k : IntKind) : Bool := IntKind.rec (motive := fun _ => Bool) false false false false false false false true k
noncomputable def kEq (a b : IntKind) : Bool := IntKind.rec (motive := fun _ => IntKind → Bool) isKi8 isKi16 isKi32 isKi64 isKu8 isKu16 isKu32 isKu64 a b
theorem kEq_iff {a b : IntKind} : kEq a b = true ↔ a = b := by cases a <;> cases b <;> decide
theorem wrapF_of {k : IntKind} {s : Nat} (h : Nat.ble s (topR k) = true) : wrapF k (.ofNat s) = .ofNat s := by
  rw [topR_eq] at h
  show (match Nat.ble s (topN k) with | true => Int.ofNat s | false => match Nat.ble (lowN k) 0 with | true => .ofNat (s % (topN k + 1)) | false => k.wrap (.ofNat s)) = _
  rw [h]
theorem wrapF_neg {k : IntKind} {s : Nat} (h : Nat.ble (Nat.succ s) (lowR k) = true) : wrapF k (.negSucc s) = .negSucc s := by
  rw [lowR_eq] at h
  show (match Nat.ble (s + 1) (lowN k) with | true => Int.negSucc s | false => k.wrap (.negSucc s)) = _
  rw [show Nat.ble (s + 1) (lowN k) = true from h]
/-- a number of a kind, from a natural one -/
noncomputable def natOut (k : IntKind) (s : Nat) (j : AV → R) : R :=
  Bool.rec (motive := fun _ => R)
    (Bool.rec (motive := fun _ => R) (j (.int k (wrapF k (.ofNat s)))) (forceN (Nat.mod s (Nat.succ (topR k))) fun z => j (.int k (.ofNat z))) (Nat.beq (lowR k) (nat_lit 0)))
    (j (.int k (.ofNat s))) (Nat.ble s (topR k))
theorem natOut_eq (k : IntKind) (s : Nat) (j : AV → R) : natOut k s j = j (.int k (wrapF k (.ofNat s))) := by
  unfold natOut
  cases h : Nat.ble s (topR k) with
  | true => rw [wrapF_of h]
  | false =>
    cases h2 : Nat.beq (lowR k) (nat_lit 0) with
    | false => rfl
    | true =>
      show forceN (s % (topR k + 1)) (fun z => j (.int k (.ofNat z))) = _
      rw [forceN_eq]
      rw [topR_eq] at h ⊢
      rw [lowR_eq] at h2
      have h2 : lowN k = 0 := Nat.eq_of_beq_eq_true h2
      show _ = j (.int k (match Nat.ble s (topN k) with | true => Int.ofNat s | false => match Nat.ble (lowN k) 0 with | true => .ofNat (s % (topN k + 1)) | false => k.wrap (.ofNat s)))
      rw [h, h2]
/-- a difference -/
noncomputable def subOut (k : IntKind) (x y : Nat) (j : AV → R) : R :=
  Bool.rec (motive := fun _ => R)
    (forceN (Nat.pred (Nat.sub y x)) fun s => Bool.rec (motive := fun _ => R) (j (.int k (wrapF k (.negSucc s)))) (j (.int k (.negSucc s))) (Nat.ble (Nat.succ s) (lowR k)))
    (forceN (Nat.sub x y) fun s => natOut k s j) (Nat.ble y x)
theorem subOut_eq (k : IntKind) (x y : Nat) (j : AV → R) : subOut k x y j = j (.int k (wrapF k (Int.ofNat x - Int.ofNat y))) := by
  unfold subOut
  cases h : Nat.ble y x with
  | true =>
    have h := Nat.le_of_ble_eq_true h
    show forceN (x - y) (fun s => natOut k s j) = _
    rw [forceN_eq, natOut_eq]
    rw [show Int.ofNat x - Int.ofNat y = Int.ofNat (x - y) from (Int.ofNat_sub h).symm]
  | false =>
    have h : ¬ y ≤ x := fun e => by rw [Nat.ble_eq_true_of_le e] at h; cases h
    have e : Int.ofNat x - Int.ofNat y = Int.negSucc (y - x - 1) := by
      rw [Int.negSucc_eq]
      show (x : Int) - (y : Int) = _
      omega
    rw [e]
    show forceN (y - x - 1) (fun s => Bool.rec (motive := fun _ => R) (j (.int k (wrapF k (.negSucc s)))) (j (.int k (.negSucc s))) (Nat.ble (Nat.succ s) (lowR k))) = _
    rw [forceN_eq]
    cases h2 : Nat.ble (Nat.succ (y - x - 1)) (lowR k) with
    | false => rfl
    | true => rw [wrapF_neg h2]
noncomputable def boolOut (b : Bool) (j : AV → R) : R := Bool.rec (motive := fun _ => R) (j (.bool false)) (j (.bool true)) b
theorem boolOut_eq (b : Bool) (j : AV → R) : boolOut b j = j (.bool b) := by cases b <;> rfl

/-- what evalOp does with two numbers of one kind -/
def slowI (op : BinOp) (k : IntKind) (a b : Int) (j : AV → R) : R :=
  match arithI op k a b with
  | some (.inl z) => j (.int k z)
  | some (.inr z) => j (.bool z)
  | none => none

structure NatK where
  run : IntKind → Nat → Nat → (AV → R) → R
noncomputable def bitOut (f : Nat → Nat → Nat) (op : BinOp) (k : IntKind) (x y : Nat) (j : AV → R) : R :=
  Bool.rec (motive := fun _ => R) (slowI op k (.ofNat x) (.ofNat y) j)
    (Bool.rec (motive := fun _ => R) (slowI op k (.ofNat x) (.ofNat y) j)
      (Bool.rec (motive := fun _ => R) (slowI op k (.ofNat x) (.ofNat y) j) (forceN (f x y) fun z => j (.int k (.ofNat z))) (Nat.ble y (topR k))) (Nat.ble x (topR k))) (bitKind k)
noncomputable def natK : BinOp → NatK
  | .add => ⟨fun k x y j => Nat.rec (motive := fun _ => R) none (fun s _ => Bool.rec (motive := fun _ => R) (natOut k s j) (j (.int k (.ofNat s))) (Nat.ble s (topR k))) (Nat.succ (Nat.add x y))⟩
  | .sub => ⟨fun k x y j => subOut k x y j⟩
  | .mul => ⟨fun k x y j => Nat.rec (motive := fun _ => R) none (fun s _ => Bool.rec (motive := fun _ => R) (natOut k s j) (j (.int k (.ofNat s))) (Nat.ble s (topR k))) (Nat.succ (Nat.mul x y))⟩
  | .quo => ⟨fun k x y j => Nat.rec (motive := fun _ => R) none (fun y _ => forceN (Nat.div x (Nat.succ y)) fun s => natOut k s j) y⟩
  | .rem => ⟨fun k x y j => Bool.rec (motive := fun _ => R) (Nat.rec (motive := fun _ => R) none (fun s _ => j (.int k (.ofNat s))) (Nat.succ (Nat.mod x y))) none (Nat.beq y (nat_lit 0))⟩
  | .and => ⟨fun k x y j => bitOut Nat.land .and k x y j⟩
  | .or => ⟨fun k x y j => bitOut Nat.lor .or k x y j⟩
  | .xor => ⟨fun k x y j => bitOut Nat.xor .xor k x y j⟩
  | .eql => ⟨fun _ x y j => Bool.rec (motive := fun _ => R) (j (.bool false)) (j (.bool true)) (Nat.beq x y)⟩
  | .neq => ⟨fun _ x y j => Bool.rec (motive := fun _ => R) (j (.bool true)) (j (.bool false)) (Nat.beq x y)⟩
  | .lss => ⟨fun _ x y j => Bool.rec (motive := fun _ => R) (j (.bool true)) (j (.bool false)) (Nat.ble y x)⟩
  | .leq => ⟨fun _ x y j => Bool.rec (motive := fun _ => R) (j (.bool false)) (j (.bool true)) (Nat.ble x y)⟩
  | .gtr => ⟨fun _ x y j => Bool.rec (motive := fun _ => R) (j (.bool true)) (j (.bool false)) (Nat.ble x y)⟩
  | .geq => ⟨fun _ x y j => Bool.rec (motive := fun _ => R) (j (.bool false)) (j (.bool true)) (Nat.ble y x)⟩
  | op => ⟨fun k x y j => slowI op k (.ofNat x) (.ofNat y) j⟩

theorem bitOut_eq (f : Nat → Nat → Nat) (op : BinOp) (k : IntKind) (x y : Nat) (j : AV → R) (hop : (op = .and ∧ f = Nat.land) ∨ (op = .or ∧ f = Nat.lor) ∨ (op = .xor ∧ f = Nat.xor)) :
    bitOut f op k x y j = slowI op k (.ofNat x) (.ofNat y) j := by
  unfold bitOut
  cases h0 : bitKind k with
  | false => rfl
  | true =>
  cases h1 : Nat.ble x (topR k) with
  | false => rfl
  | true =>
  cases h2 : Nat.ble y (topR k) with
  | false => rfl
  | true =>
    show forceN (f x y) (fun z => j (.int k (.ofNat z))) = _
    rw [forceN_eq]
    rw [topR_eq] at h1 h2
    have key : bitsF op k (.ofNat x) (.ofNat y) = some (.ofNat (f x y)) := by
      show bitsF0 op k (.ofNat x) (.ofNat y) = _
      cases k <;> first | (cases h0; done) | skip
      all_goals
        simp only [bitsF0, h1, h2]
        rcases hop with ⟨rfl, rfl⟩ | ⟨rfl, rfl⟩ | ⟨rfl, rfl⟩ <;> rfl
    rcases hop with ⟨rfl, rfl⟩ | ⟨rfl, rfl⟩ | ⟨rfl, rfl⟩ <;> (simp only [slowI, arithI]; rw [key])

theorem natOut_in (s : Nat) (k : IntKind) (j : AV → R) : Bool.rec (motive := fun _ => R) (natOut k s j) (j (.int k (.ofNat s))) (Nat.ble s (topR k)) = j (.int k (wrapF k (.ofNat s))) := by
  cases h : Nat.ble s (topR k) with
  | true => rw [wrapF_of h]
  | false => exact natOut_eq k s j
theorem natK_eq (op : BinOp) (k : IntKind) (x y : Nat) (j : AV → R) : (natK op).run k x y j = slowI op k (.ofNat x) (.ofNat y) j := by
  cases op
  case add => exact (natOut_in (x + y) k j).trans (by rfl)
  case sub => show subOut k x y j = _; rw [subOut_eq]; rfl
  case mul => exact (natOut_in (x * y) k j).trans (by rfl)
  case quo =>
    cases y with
    | zero => rfl
    | succ y => show forceN (x / (y + 1)) (fun s => natOut k s j) = _; rw [forceN_eq, natOut_eq]; rfl
  case rem =>
    cases y with
    | zero => rfl
    | succ y => rfl
  case and => exact bitOut_eq _ _ _ _ _ _ (by simp)
  case or => exact bitOut_eq _ _ _ _ _ _ (by simp)
  case xor => exact bitOut_eq _ _ _ _ _ _ (by simp)
  case eql => exact boolOut_eq _ _
  case neq => show Bool.rec (motive := fun _ => R) (j (.bool true)) (j (.bool false)) (Nat.beq x y) = j (.bool !(Nat.beq x y)); cases Nat.beq x y <;> rfl
  case lss => show Bool.rec (motive := fun _ => R) (j (.bool true)) (j (.bool false)) (Nat.ble y x) = j (.bool !(Nat.ble y x)); cases Nat.ble y x <;> rfl
  case leq => exact boolOut_eq _ _
  case gtr => show Bool.rec (motive := fun _ => R) (j (.bool true)) (j (.bool false)) (Nat.ble x y) = j (.bool !(Nat.ble x y)); cases Nat.ble x y <;> rfl
  case geq => exact boolOut_eq _ _
  all_goals rfl

/-- shifts -/
noncomputable def shlN (k : IntKind) (x y : Nat) (j : AV → R) : R :=
  Bool.rec (motive := fun _ => R) (forceN (Nat.mul x (Nat.pow (nat_lit 2) (bitsR k))) fun s => natOut k s j) (forceN (Nat.mul x (Nat.pow (nat_lit 2) y)) fun s => natOut k s j) (Nat.ble y (bitsR k))
noncomputable def shrN (k : IntKind) (x y : Nat) (j : AV → R) : R :=
  Bool.rec (motive := fun _ => R) (forceN (Nat.div x (Nat.pow (nat_lit 2) (bitsR k))) fun s => j (.int k (.ofNat s))) (forceN (Nat.div x (Nat.pow (nat_lit 2) y)) fun s => j (.int k (.ofNat s))) (Nat.ble y (bitsR k))
theorem shlN_eq (k : IntKind) (x y : Nat) (j : AV → R) : shlN k x y j = match shiftI .shl k (.ofNat x) (.ofNat y) with | some z => j (.int k z) | none => none := by
  unfold shlN
  rw [bitsR_eq]
  show _ = j (.int k (wrapF k (.ofNat (x * 2 ^ min y k.bits))))
  cases h : Nat.ble y k.bits with
  | true =>
    have h := Nat.le_of_ble_eq_true h
    rw [Nat.min_eq_left h]
    show forceN (x * 2 ^ y) (fun s => natOut k s j) = _
    rw [forceN_eq, natOut_eq]
  | false =>
    have h : ¬ y ≤ k.bits := fun e => by rw [Nat.ble_eq_true_of_le e] at h; cases h
    rw [Nat.min_eq_right (by omega)]
    show forceN (x * 2 ^ k.bits) (fun s => natOut k s j) = _
    rw [forceN_eq, natOut_eq]
theorem shrN_eq (k : IntKind) (x y : Nat) (j : AV → R) : shrN k x y j = match shiftI .shr k (.ofNat x) (.ofNat y) with | some z => j (.int k z) | none => none := by
  unfold shrN
  rw [bitsR_eq]
  show _ = j (.int k (.ofNat (x / 2 ^ min y k.bits)))
  cases h : Nat.ble y k.bits with
  | true =>
    have h := Nat.le_of_ble_eq_true h
    rw [Nat.min_eq_left h]
    rfl
  | false =>
    have h : ¬ y ≤ k.bits := fun e => by rw [Nat.ble_eq_true_of_le e] at h; cases h
    rw [Nat.min_eq_right (by omega)]
    rfl

end Go.Clean

namespace Go.Clean

noncomputable def loadV (L : Laid) (h : H) (k : AV → R) (v : AV) : R := AV.rec (motive_1 := fun _ => R) (motive_2 := fun _ => R) (fun _ => none) (fun _ _ => none) (fun _ => none) (none) (fun b o => onCells h b fun l _ _ _ => nthR l o k) (fun g o => Option.rec (motive := fun _ => R) none k (L g o)) (none) (fun _ _ _ _ _ => none) (none) (none) (fun _ => none) (none) (fun _ _ _ _ _ => none) (none) (fun _ _ _ => none) (fun _ _ => none) (fun _ _ => none) (fun _ => none) (fun _ => none) (fun _ _ _ => none) none (fun _ _ _ _ => none) v
theorem loadV_eq (L : Laid) (h : H) (k : AV → R) (n : Nat) (v : AV) : loadV L h k v = match (match v with
    | .ptr b o => match h.m.get b with
      | some (.cells l _ _ _) => match partA l o n false with
        | some v => some (v, h)
        | none => none
      | _ => none
    | .gptr g o => match L g o with
      | some v => some (v, h)
      | none => none
    | _ => none) with | some (v, _) => k v | none => none := by
  cases v <;> try rfl
  case ptr b o =>
    show onCells h b (fun l _ _ _ => nthR l o k) = _
    rw [onCells_eq]
    simp only [partA]
    cases h.m.get b with
    | none => rfl
    | some x =>
      cases x with
      | cells l T row fr =>
        show nthR l o k = _
        rw [nthR_eq]
        simp only
        cases nth l o <;> rfl
      | map es => rfl
      | dead => rfl
  case gptr g o =>
    show Option.rec (motive := fun _ => R) none k (L g o) = _
    simp only
    cases L g o <;> rfl

noncomputable def onAddr (off : Nat) (k : AV → R) (v : AV) : R := AV.rec (motive_1 := fun _ => R) (motive_2 := fun _ => R) (fun _ => none) (fun _ _ => none) (fun _ => none) (none) (fun b o => forceN (Nat.add o off) fun s => k (.ptr b s)) (fun g o => forceN (Nat.add o off) fun s => k (.gptr g s)) (none) (fun _ _ _ _ _ => none) (none) (none) (fun _ => none) (none) (fun _ _ _ _ _ => none) (none) (fun _ _ _ => none) (fun _ _ => none) (fun _ _ => none) (fun _ => none) (fun _ => none) (fun _ _ _ => none) none (fun _ _ _ _ => none) v
theorem onAddr_eq (off : Nat) (k : AV → R) (v : AV) : onAddr off k v = match v with | .ptr b o => k (.ptr b (o + off)) | .gptr b o => k (.gptr b (o + off)) | _ => none := by cases v <;> rfl

noncomputable def onSome (k : AV → R) (v : AV) : R := AV.rec (motive_1 := fun _ => R) (motive_2 := fun _ => R) (fun _ => none) (fun _ _ => none) (fun _ => none) (none) (fun b o => k (.ptr b o)) (fun g o => k (.gptr g o)) (none) (fun _ _ _ _ _ => none) (none) (none) (fun _ => none) (none) (fun f p q _ _ => k (.func f p q)) (none) (fun _ _ _ => none) (fun _ _ => none) (fun _ _ => none) (fun _ => none) (fun _ => none) (fun _ _ _ => none) none (fun _ _ _ _ => none) v
theorem onSome_eq (k : AV → R) (v : AV) : onSome k v = match v with | .ptr b o => k (.ptr b o) | .gptr b o => k (.gptr b o) | .func f a b => k (.func f a b) | _ => none := by cases v <;> rfl

noncomputable def onLen (k : Nat → R) (v : AV) : R := AV.rec (motive_1 := fun _ => R) (motive_2 := fun _ => R) (fun _ => none) (fun _ _ => none) (fun _ => none) (none) (fun _ _ => none) (fun _ _ => none) (k (nat_lit 0)) (fun b o n c ex => k n) (k (nat_lit 0)) (none) (fun _ => none) (none) (fun _ _ _ _ _ => none) (none) (fun _ _ _ => none) (fun _ _ => none) (fun _ _ => none) (fun _ => none) (fun _ => none) (fun _ _ _ => none) none (fun _ _ _ _ => none) v
theorem onLen_eq (k : Nat → R) (v : AV) : onLen k v = match v with | .nilSlice => k 0 | .eslice => k 0 | .slice _ _ n _ _ => k n | _ => none := by cases v <;> rfl

/-- the value, laid out -/
noncomputable def packV (v : AV) (k : AV → R) : R := AV.rec (motive_1 := fun _ => R) (motive_2 := fun _ => R) (fun b => k (.bool b)) (fun kk n => Int.rec (motive := fun _ => R) (fun n => forceN n fun n => k (.int kk (.ofNat n))) (fun n => forceN n fun n => k (.int kk (.negSucc n))) n) (fun s => listR s fun s => k (.str s)) (k .nilPtr) (fun b o => forceN b fun b => forceN o fun o => k (.ptr b o)) (fun g o => k (.gptr g o)) (k .nilSlice) (fun b o n c ex => forceN b fun b => forceN o fun o => forceN n fun n => forceN c fun c => forceN ex fun ex => k (.slice b o n c ex)) (k .eslice) (k .nilMap) (fun b => k (.map b)) (k .nilFunc) (fun f p q _ _ => k (.func f p q)) (k .nilIface) (fun t v _ => k (.iface t v)) (fun l _ => k (.agg l)) (fun l _ => k (.tuple l)) (fun v => k (.raw v)) (fun i => k (.tok i)) (fun i lo hi => k (.itok i lo hi)) none (fun _ _ _ _ => none) v
theorem packV_eq (v : AV) (k : AV → R) : packV v k = k v := by
  cases v <;> try rfl
  case int kk n => cases n <;> rfl
  case str s => exact listR_eq s fun s => k (.str s)

noncomputable def onIntStr (ki : IntKind → Int → R) (ks : List Nat → R) (v : AV) : R := AV.rec (motive_1 := fun _ => R) (motive_2 := fun _ => R) (fun _ => none) (fun kk n => ki kk n) (fun s => ks s) (none) (fun _ _ => none) (fun _ _ => none) (none) (fun _ _ _ _ _ => none) (none) (none) (fun _ => none) (none) (fun _ _ _ _ _ => none) (none) (fun _ _ _ => none) (fun _ _ => none) (fun _ _ => none) (fun _ => none) (fun _ => none) (fun _ _ _ => none) none (fun _ _ _ _ => none) v
theorem onIntStr_eq (ki : IntKind → Int → R) (ks : List Nat → R) (v : AV) : onIntStr ki ks v = match v with | .int kk n => ki kk n | .str s => ks s | _ => none := by cases v <;> rfl

noncomputable def onAdded (h : H) (size : Nat) (k : Nat → List AV → R) (v : AV) : R := AV.rec (motive_1 := fun _ => R) (motive_2 := fun _ => R) (fun _ => none) (fun _ _ => none) (fun s => Bool.rec (motive := fun _ => R) none (forceN (lenR s) fun n => listR (bytesA s) fun l => k n l) (Nat.beq size (nat_lit 1))) (none) (fun _ _ => none) (fun _ _ => none) (k (nat_lit 0) []) (fun b o n c ex => forceN (Nat.mul n size) fun s => cellsR h b o s fun l => k n l) (k (nat_lit 0) []) (none) (fun _ => none) (none) (fun _ _ _ _ _ => none) (none) (fun _ _ _ => none) (fun _ _ => none) (fun _ _ => none) (fun _ => none) (fun _ => none) (fun _ _ _ => none) none (fun _ _ _ _ => none) v
theorem onAdded_eq (h : H) (size : Nat) (k : Nat → List AV → R) (v : AV) : onAdded h size k v = match added h size v with | some (n, l) => k n l | none => none := by
  cases v <;> try rfl
  case slice b o n c ex =>
    show cellsR h b o (n * size) (fun l => k n l) = _
    rw [cellsR_eq]
    simp only [added]
    cases cellsAt h b o (n * size) <;> rfl
  case str s =>
    show Bool.rec (motive := fun _ => R) none (forceN (lenR s) fun n => listR (bytesA s) fun l => k n l) (Nat.beq size 1) = _
    simp only [added]
    cases Nat.beq size 1 with
    | false => rfl
    | true =>
      show forceN (lenR s) (fun n => listR (bytesA s) fun l => k n l) = k s.length (bytesA s)
      rw [forceN_eq, listR_eq, lenR_eq]

/-! ### append -/
noncomputable def growR (h : H) (size T b o len ex : Nat) (n : Nat) (new : List AV) (k : KV) : R :=
  onCells h b fun l T' row fr => forceN (Nat.mul len size) fun ls => subR l o ls fun old => appR old new fun all => forceN (Nat.add len n) fun ln =>
    Bool.rec (motive := fun _ => R)
      (Bool.rec (motive := fun _ => R) (Bool.rec (motive := fun _ => R) none
        (Bool.rec (motive := fun _ => R) none (Bool.rec (motive := fun _ => R) none (Bool.rec (motive := fun _ => R) none
          (setR h b .dead fun h => newR h (.cells all T true false) fun c h => k (.slice c (nat_lit 0) ln ln size) h) (Nat.beq ex size)) (Nat.beq T' T)) (Nat.beq (Nat.add o ls) (lenR l))) row) none fr)
      (newR h (.cells all T true false) fun c h => k (.slice c (nat_lit 0) ln ln size) h) (Nat.beq ex (nat_lit 0))
theorem growR_eq (h : H) (size T b o len ex : Nat) (n : Nat) (new : List AV) (k : KV) : growR h size T b o len ex n new k = bindO (match h.m.get b with
            | some (.cells l T' row fr) => match sub l o (len * size) with
              | some old => match Nat.beq ex 0 with
                | true => some (.slice h.next 0 (len + n) (len + n) size, newB h (.cells (old ++ new) T true false))
                | false => match fr, row, Nat.beq (o + len * size) l.length, Nat.beq T' T, Nat.beq ex size with
                  | false, true, true, true, true => some (.slice h.next 0 (len + n) (len + n) size, newB ⟨h.m.set b .dead, h.next⟩ (.cells (old ++ new) T true false))
                  | _, _, _, _, _ => none
              | none => none
            | _ => none) k := by
  unfold growR
  rw [onCells_eq]
  cases h.m.get b with
  | none => rfl
  | some x =>
    cases x with
    | map es => rfl
    | dead => rfl
    | cells l T' row fr =>
      simp only [forceN_eq, subR_eq, appR_eq, newR_eq, setR_eq, lenR_eq, Nat.mul_eq, Nat.add_eq]
      cases sub l o (len * size) with
      | none => rfl
      | some old =>
        simp only
        cases Nat.beq ex 0 with
        | true => rfl
        | false =>
          cases fr with
          | true => rfl
          | false =>
            cases row with
            | false => rfl
            | true =>
              show (Bool.rec (motive := fun _ => R) none (Bool.rec (motive := fun _ => R) none (Bool.rec (motive := fun _ => R) none _ (Nat.beq ex size)) (Nat.beq T' T)) (Nat.beq (o + len * size) l.length) : R) = _
              cases Nat.beq (o + len * size) l.length with
              | false => rfl
              | true =>
                cases Nat.beq T' T with
                | false => rfl
                | true =>
                  cases Nat.beq ex size with
                  | false => rfl
                  | true => rfl
noncomputable def okLen (n bytes : Nat) (k : R) : R :=
  Bool.rec (motive := fun _ => R) none (Bool.rec (motive := fun _ => R) none k (Nat.ble n (nat_lit 1000000000))) (Nat.ble (Nat.mul n bytes) (nat_lit 1000000000))
theorem okLen_eq (n bytes : Nat) (k : R) : okLen n bytes k = match Nat.ble (n * bytes) 1000000000, Nat.ble n 1000000000 with | true, true => k | _, _ => none := by
  show (Bool.rec (motive := fun _ => R) none (Bool.rec (motive := fun _ => R) none k (Nat.ble n 1000000000)) (Nat.ble (n * bytes) 1000000000) : R) = _
  cases Nat.ble (n * bytes) 1000000000 <;> cases Nat.ble n 1000000000 <;> rfl

noncomputable def appNone (h : H) (k : KV) (v : AV) : R := AV.rec (motive_1 := fun _ => R) (motive_2 := fun _ => R) (fun _ => none) (fun _ _ => none) (fun _ => none) (none) (fun _ _ => none) (fun _ _ => none) (k .nilSlice h) (fun b o n c ex => k (.slice b o n c ex) h) (none) (none) (fun _ => none) (none) (fun _ _ _ _ _ => none) (none) (fun _ _ _ => none) (fun _ _ => none) (fun _ _ => none) (fun _ => none) (fun _ => none) (fun _ _ _ => none) none (fun _ _ _ _ => none) v
noncomputable def appSome (size T bytes len : Nat) (new : List AV) (h : H) (k : KV) (v : AV) : R := AV.rec (motive_1 := fun _ => R) (motive_2 := fun _ => R) (fun _ => none) (fun _ _ => none) (fun _ => none) (none) (fun _ _ => none) (fun _ _ => none) (okLen len bytes (newR h (.cells new T true false) fun c h => k (.slice c (nat_lit 0) len len size) h)) (fun b o n c ex => forceN (Nat.add n len) fun ln => Bool.rec (motive := fun _ => R) (okLen ln bytes (growR h size T b o n ex len new k)) (forceN (Nat.add o (Nat.mul n size)) fun p => setCellsR h b p new fun h => k (.slice b o ln c ex) h) (Nat.ble ln c)) (none) (none) (fun _ => none) (none) (fun _ _ _ _ _ => none) (none) (fun _ _ _ => none) (fun _ _ => none) (fun _ _ => none) (fun _ => none) (fun _ => none) (fun _ _ _ => none) none (fun _ _ _ _ => none) v
noncomputable def appendR (size T bytes : Nat) (s x : AV) (h : H) (k : KV) : R :=
  onAdded h size (fun len new => Bool.rec (motive := fun _ => R) (appSome size T bytes len new h k s) (appNone h k s) (Nat.beq len (nat_lit 0))) x
theorem appendR_eq (size T bytes : Nat) (s x : AV) (h : H) (k : KV) : appendR size T bytes s x h k = bindO (evalAppend size T bytes s x h) k := by
  unfold appendR
  rw [onAdded_eq]
  unfold evalAppend
  cases added h size x with
  | none => rfl
  | some p =>
    obtain ⟨len, new⟩ := p
    simp only
    cases h0 : Nat.beq len (nat_lit 0) with
    | true =>
      cases s <;> rfl
    | false =>
      cases s <;> try rfl
      case nilSlice =>
        show okLen len bytes (newR h (.cells new T true false) fun c h => k (.slice c (nat_lit 0) len len size) h) = _
        rw [okLen_eq, newR_eq]
        simp only
        cases Nat.ble (len * bytes) 1000000000 <;> cases Nat.ble len 1000000000 <;> rfl
      case slice b o n c ex =>
        show Bool.rec (motive := fun _ => R) (okLen (n + len) bytes (growR h size T b o n ex len new k)) (setCellsR h b (o + n * size) new fun h => k (.slice b o (n + len) c ex) h) (Nat.ble (n + len) c) = _
        simp only
        cases Nat.ble (n + len) c with
        | true =>
          show setCellsR h b (o + n * size) new (fun h => k (.slice b o (n + len) c ex) h) = _
          rw [setCellsR_eq]
          simp only
          cases setCells h b (o + n * size) new <;> rfl
        | false =>
          show okLen (n + len) bytes (growR h size T b o n ex len new k) = _
          rw [okLen_eq]
          simp only
          cases Nat.ble ((n + len) * bytes) 1000000000 with
          | false => cases Nat.ble (n + len) 1000000000 <;> rfl
          | true =>
            cases Nat.ble (n + len) 1000000000 with
            | false => rfl
            | true =>
              simp only
              exact growR_eq h size T b o n ex len new k

end Go.Clean

