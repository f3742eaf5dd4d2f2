/- From a local run with plain arguments and a plain result to the contract of a call; what an oracle may be. Any program. -/
import Derived.Test.YtedfhallhpkkhaaGreatDoorX2
import Derived.Test.YtedfhallhpkkhaaGreatDoorX3
set_option linter.unusedVariables false
set_option linter.unusedSimpArgs false
namespace Go.Proofs.YtedfhallhpkkhaaGreatDoor.X
open Go Go.RowKit

/-- What a run is asked for. -/
def isVal (f : Value → Bool) : Option Res → Bool
  | some (.val v _) => f v
  | _ => false
theorem isVal_some {f : Value → Bool} {r : Option Res} (h : isVal f r = true) : ∃ v h', r = some (.val v h') ∧ f v = true := by
  unfold isVal at h
  split at h
  · rename_i v h'; exact ⟨v, h', rfl, h⟩
  · cases h
/-- A function of the program, run locally from nothing with plain arguments to a plain value. -/
theorem calls_of_val {P : Program} {orc : Orc} {n : Nat} {f : FuncId} {args : List Value} {u : Value} {h' : LH} {w : World} (hoo : OrcOk P ⟨w.heap.size, w⟩ orc) (hg : GOk w.heap) (hp : plainL args = true) (hu : plain u = true)
    (hv : lrunF P orc (X.anyF P orc) n (.call f args ⟨.nil, 7⟩) = some (.val u h')) : Calls P f args.toArray w (fun e w' => e = .returned u ∧ Below w.heap.size w w') := by
  rw [lrunF_eq, anyF_eq] at hv
  have hs := lrun_sound P ⟨w.heap.size, w⟩ orc hoo n _ _ hv
  have hrel : HRel (one 0 0 0) ⟨.nil, 7⟩ w.heap := ⟨fun i o hi => (by cases hi), fun i j oi oj hi => (by cases hi), fun i hi => (by have hi' : 7 ≤ i := hi; simp only [one]; rw [if_neg (by omega)]), rfl, hg, fun i o hi => (by cases hi)⟩
  have hw : wfL (one 0 0 0) args := (plainL_ren _ args hp).2
  have hargs : args.map (ren (one 0 0 0)) = args := by
    have := (plainL_ren (one 0 0 0) args hp).1
    rwa [renL_eq] at this
  have hc := hs (one 0 0 0) w hrel hw ⟨fun i o hi => (by cases hi), ⟨rfl, rfl, rfl, Nat.le_refl _, fun k _ => rfl⟩, Nat.le_refl _⟩
  rw [hargs] at hc
  refine Calls.mono ((callsIn_wide (n := 0)).1 hc) ?_
  rintro e w' ⟨R', rfl, h2, g⟩
  refine ⟨by rw [(plain_ren R' u hu).1], g.os, g.tape, g.output, g.size, fun k hk => g.frame k hk fun i o hi => by cases hi⟩
theorem calls_of_run {P : Program} {orc : Orc} {n : Nat} {f : FuncId} {args : List Value} {u : Value} {w : World} (hoo : OrcOk P ⟨w.heap.size, w⟩ orc) (hg : GOk w.heap) (hp : plainL args = true) (hu : plain u = true)
    (hr : isVal (veq u) (lrunF P orc (X.anyF P orc) n (.call f args ⟨.nil, 7⟩)) = true) : Calls P f args.toArray w (fun e w' => e = .returned u ∧ Below w.heap.size w w') := by
  obtain ⟨v, h', hv, he⟩ := isVal_some hr
  have := veq_eq _ _ he
  subst this
  exact calls_of_val hoo hg hp hu hv
end Go.Proofs.YtedfhallhpkkhaaGreatDoor.X
