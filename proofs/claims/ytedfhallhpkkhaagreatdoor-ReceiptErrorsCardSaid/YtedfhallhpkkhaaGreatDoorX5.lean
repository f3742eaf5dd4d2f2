/- Facts on calls with plain arguments, gathered into oracles for further local runs. Any program. -/
import Derived.Test.YtedfhallhpkkhaaGreatDoorX4
set_option linter.unusedVariables false
set_option linter.unusedSimpArgs false
namespace Go.Proofs.YtedfhallhpkkhaaGreatDoor.X
open Go Go.RowKit

/-- A call with these plain arguments gives this value, in every world with the constants of SHA-256. -/
def Fact (P : Program) (f : FuncId) (args : List Value) (v : Value) : Prop := ∀ w : World, GOk w.heap → Calls P f args.toArray w (fun e w' => e = .returned v ∧ Below w.heap.size w w')
def OrcFacts (P : Program) (orc : Orc) : Prop := ∀ f g args v, orc f = some g → plainL args = true → g args = some v → plain v = true → Fact P f args v
theorem orcOk_of {P : Program} {orc : Orc} {c : Ctx} (h : OrcFacts P orc) (hg : GOk c.w0.heap) (hn : 0 < c.N0) : OrcOk P c orc := by
  intro f g args v w h1 h2 h3 h4 hb
  exact h f g args v h1 h2 h3 h4 w (hg.of (hb.block 0 hn))
theorem fact_of_run {P : Program} {orc : Orc} {n : Nat} {f : FuncId} {args : List Value} {u : Value} (ho : OrcFacts P orc) (hp : plainL args = true) (hu : plain u = true)
    (hr : isVal (veq u) (lrunF P orc (X.anyF P orc) n (.call f args ⟨.nil, 7⟩)) = true) : Fact P f args u :=
  fun w hg => calls_of_run (orcOk_of (c := ⟨w.heap.size, w⟩) ho hg hg.pos) hg hp hu hr
theorem noFacts (P : Program) : OrcFacts P (fun _ => none) := fun f g args v h => by cases h

noncomputable def tabF (tab : List (List Value × Value)) (args : List Value) : Option Value := List.rec (motive := fun _ => Option Value) none (fun p _ rest => bb (veqL p.1 args) (some p.2) rest) tab
theorem tabF_mem {args : List Value} {v : Value} : ∀ {tab : List (List Value × Value)}, tabF tab args = some v → (args, v) ∈ tab
  | [], h => by cases h
  | p :: tab, h => by
    have h : bb (veqL p.1 args) (some p.2) (tabF tab args) = some v := h
    rw [bb_ite] at h
    split at h
    · rename_i he
      simp only [Option.some.injEq] at h
      have := veqL_eq _ _ he
      rw [← this, ← h]
      simp
    · exact List.mem_cons_of_mem _ (tabF_mem h)
noncomputable def withTab (f : FuncId) (tab : List (List Value × Value)) (rest : Orc) : Orc := fun g => bb (Nat.beq g f) (some (tabF tab)) (rest g)
theorem withTab_facts {P : Program} {f : FuncId} {tab : List (List Value × Value)} {rest : Orc} (ht : ∀ p ∈ tab, Fact P f p.1 p.2) (hr : OrcFacts P rest) : OrcFacts P (withTab f tab rest) := by
  intro g k args v h1 h2 h3 h4
  unfold withTab at h1
  rw [bb_ite, nat_beq] at h1
  split at h1
  · rename_i he
    simp only [decide_eq_true_eq] at he
    subst he
    simp only [Option.some.injEq] at h1
    subst h1
    exact ht _ (tabF_mem h3)
  · exact hr g k args v h1 h2 h3 h4
def st (l : List Nat) : Value := .agg ⟨l.map fun n => .int .u32 (Int.ofNat n)⟩
def dg (l : List Nat) : Value := .agg ⟨l.map fun n => .int .u8 (Int.ofNat n)⟩
end Go.Proofs.YtedfhallhpkkhaaGreatDoor.X
