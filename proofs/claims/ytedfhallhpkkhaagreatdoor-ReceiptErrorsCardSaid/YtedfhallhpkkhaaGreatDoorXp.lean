/- The local run once more, by the recursors themselves, so that the kernel unfolds small terms; equal to the first. Any program. -/
import Derived.Test.YtedfhallhpkkhaaGreatDoorXk
set_option linter.unusedVariables false
set_option linter.unusedSimpArgs false
namespace Go.Proofs.YtedfhallhpkkhaaGreatDoor.X
open Go
noncomputable section

def ob {α β : Type} (x : Option α) (f : α → Option β) : Option β := Option.rec (motive := fun _ => Option β) none f x
theorem ob_none {α β : Type} (f : α → Option β) : ob none f = none := rfl
theorem ob_some {α β : Type} (a : α) (f : α → Option β) : ob (some a) f = f a := rfl
def bb {β : Type} (c : Bool) (x y : β) : β := Bool.rec (motive := fun _ => β) y x c
theorem bb_true {β : Type} (x y : β) : bb true x y = x := rfl
theorem bb_false {β : Type} (x y : β) : bb false x y = y := rfl
theorem bb_ite {β : Type} (c : Bool) (x y : β) : bb c x y = if c = true then x else y := by cases c <;> rfl

theorem bb_and (x y z : Bool) : bb x (bb y z false) false = (x && (y && z)) := by cases x <;> cases y <;> rfl

/-! ### Lists -/
def nthF {α : Type} (l : List α) : Nat → Option α := List.rec (motive := fun _ => Nat → Option α) (fun _ => none) (fun x _ ih k => Nat.rec (motive := fun _ => Option α) (some x) (fun j _ => ih j) k) l
theorem nthF_eq {α : Type} : ∀ (l : List α) (k : Nat), nthF l k = l[k]?
  | [], _ => rfl
  | _ :: _, 0 => rfl
  | _ :: l, k + 1 => nthF_eq l k
def lenF {α : Type} (l : List α) : Nat := List.rec (motive := fun _ => Nat) 0 (fun _ _ n => Nat.succ n) l
theorem lenF_eq {α : Type} : ∀ l : List α, lenF l = l.length
  | [] => rfl
  | _ :: l => congrArg Nat.succ (lenF_eq l)
def dropF {α : Type} (k : Nat) (l : List α) : List α := Nat.rec (motive := fun _ => List α → List α) (fun l => l) (fun _ ih l => List.rec (motive := fun _ => List α) [] (fun _ t _ => ih t) l) k l
theorem dropF_eq {α : Type} : ∀ (k : Nat) (l : List α), dropF k l = l.drop k
  | 0, _ => rfl
  | _ + 1, [] => rfl
  | k + 1, _ :: l => dropF_eq k l
def takeF {α : Type} (k : Nat) (l : List α) : List α := Nat.rec (motive := fun _ => List α → List α) (fun _ => []) (fun _ ih l => List.rec (motive := fun _ => List α) [] (fun x t _ => x :: ih t) l) k l
theorem takeF_eq {α : Type} : ∀ (k : Nat) (l : List α), takeF k l = l.take k
  | 0, _ => by rw [List.take_zero]; rfl
  | _ + 1, [] => rfl
  | k + 1, x :: l => congrArg (x :: ·) (takeF_eq k l)
def appF {α : Type} (l m : List α) : List α := List.rec (motive := fun _ => List α) m (fun x _ ih => x :: ih) l
theorem appF_eq {α : Type} : ∀ (l m : List α), appF l m = l ++ m
  | [], _ => rfl
  | x :: l, m => congrArg (x :: ·) (appF_eq l m)

/-! ### Values -/
def plainR (v : Value) : Bool :=
  Value.rec (motive_1 := fun _ => Bool) (motive_2 := fun _ => Bool) (motive_3 := fun _ => Bool)
    (fun _ => true) (fun _ _ => true) (fun _ _ => true) (fun _ _ _ => true) (fun _ => true)
    (fun a => Option.rec (motive := fun _ => Bool) true (fun _ => false) a) (fun a _ _ => Option.rec (motive := fun _ => Bool) true (fun _ => false) a)
    (fun a => Option.rec (motive := fun _ => Bool) true (fun _ => false) a) (fun a => Option.rec (motive := fun _ => Bool) true (fun _ => false) a)
    (fun fn _ _ p q => bb (plainFn fn) (bb p q false) false) true (fun _ _ p => p) true (fun _ p => p) (fun _ p => p)
    (fun _ p => p) true (fun _ _ p q => bb p q false) v
mutual
theorem plainR_eq : ∀ v : Value, plainR v = plain v
  | .bool _ => rfl
  | .int _ _ => rfl
  | .float _ _ => rfl
  | .complex _ _ _ => rfl
  | .string _ => rfl
  | .pointer none => rfl
  | .pointer (some _) => rfl
  | .slice none _ _ => rfl
  | .slice (some _) _ _ => rfl
  | .map none => rfl
  | .map (some _) => rfl
  | .chan none => rfl
  | .chan (some _) => rfl
  | .func fn fs cs => by
    show bb (plainFn fn) (bb _ _ false) false = (plainFn fn && (plainA fs && plainA cs))
    rw [← plainRA_eq fs, ← plainRA_eq cs]
    exact bb_and _ _ _
  | .nilFunc => rfl
  | .iface _ v => plainR_eq v
  | .nilIface => rfl
  | .agg cs => plainRA_eq cs
  | .tuple cs => plainRA_eq cs
theorem plainRA_eq : ∀ a : Array Value, (Value.rec_1 (motive_1 := fun _ => Bool) (motive_2 := fun _ => Bool) (motive_3 := fun _ => Bool)
    (fun _ => true) (fun _ _ => true) (fun _ _ => true) (fun _ _ _ => true) (fun _ => true)
    (fun a => Option.rec (motive := fun _ => Bool) true (fun _ => false) a) (fun a _ _ => Option.rec (motive := fun _ => Bool) true (fun _ => false) a)
    (fun a => Option.rec (motive := fun _ => Bool) true (fun _ => false) a) (fun a => Option.rec (motive := fun _ => Bool) true (fun _ => false) a)
    (fun fn _ _ p q => bb (plainFn fn) (bb p q false) false) true (fun _ _ p => p) true (fun _ p => p) (fun _ p => p)
    (fun _ p => p) true (fun _ _ p q => bb p q false) a : Bool) = plainA a
  | ⟨l⟩ => plainRL_eq l
theorem plainRL_eq : ∀ a : List Value, (Value.rec_2 (motive_1 := fun _ => Bool) (motive_2 := fun _ => Bool) (motive_3 := fun _ => Bool)
    (fun _ => true) (fun _ _ => true) (fun _ _ => true) (fun _ _ _ => true) (fun _ => true)
    (fun a => Option.rec (motive := fun _ => Bool) true (fun _ => false) a) (fun a _ _ => Option.rec (motive := fun _ => Bool) true (fun _ => false) a)
    (fun a => Option.rec (motive := fun _ => Bool) true (fun _ => false) a) (fun a => Option.rec (motive := fun _ => Bool) true (fun _ => false) a)
    (fun fn _ _ p q => bb (plainFn fn) (bb p q false) false) true (fun _ _ p => p) true (fun _ p => p) (fun _ p => p)
    (fun _ p => p) true (fun _ _ p q => bb p q false) a : Bool) = plainL a
  | [] => rfl
  | v :: l => by
    show bb (plainR v) _ false = (plain v && plainL l)
    rw [plainR_eq v, ← plainRL_eq l]
    cases plain v <;> rfl
end
end
end Go.Proofs.YtedfhallhpkkhaaGreatDoor.X
