/- sha256.right: what it gives, by the local run with an open number; an oracle. -/
import Derived.Test.YtedfhallhpkkhaaGreatDoorM4
import Derived.Test.YtedfhallhpkkhaaGreatDoorProg
import Derived.KernelRfl
set_option linter.unusedVariables false
set_option linter.unusedSimpArgs false
namespace Go.Proofs.YtedfhallhpkkhaaGreatDoor.X
open Go Go.RowKit

noncomputable def valOf (r : Option Res) : Option Value := ob r fun x => Res.rec (motive := fun _ => Option Value) (fun _ _ _ => none) (fun v _ => some v) x
theorem fact_of_val {P : Program} {orc : Orc} {n : Nat} {f : FuncId} {args : List Value} {u : Value} (ho : OrcFacts P orc) (hp : plainL args = true) (hu : plain u = true)
    (hr : valOf (lrunF P orc (X.anyF P orc) n (.call f args ⟨.nil, 7⟩)) = some u) : Fact P f args u := by
  intro w hg
  have : ∃ h', lrunF P orc (X.anyF P orc) n (.call f args ⟨.nil, 7⟩) = some (.val u h') := by
    cases h : lrunF P orc (X.anyF P orc) n (.call f args ⟨.nil, 7⟩) with
    | none => rw [h] at hr; cases hr
    | some r =>
      rw [h] at hr
      cases r with
      | code e a h' => cases hr
      | val v h' =>
        have hr : some v = some u := hr
        simp only [Option.some.injEq] at hr
        exact ⟨h', by rw [hr]⟩
  obtain ⟨h', hv⟩ := this
  exact calls_of_val (orcOk_of (c := ⟨w.heap.size, w⟩) ho hg hg.pos) hg hp hu hv
noncomputable def rrX (n m : Nat) : Nat := Nat.lor (Nat.mod (Nat.mod (Nat.mul m (Nat.pow 2 (32 - n))) 4294967296) 4294967296) (Nat.mod (Nat.div m (Nat.pow 2 n)) 4294967296)
noncomputable abbrev run0 (f : FuncId) (args : List Value) : Option Value := valOf (lrunF Tryz.prog (fun _ => none) (X.anyF Tryz.prog (fun _ => none)) 1000 (.call f args ⟨.nil, 7⟩))
theorem right2 (m : Nat) : run0 211 [.int .i64 (Int.ofNat 2), .int .u32 (Int.ofNat m)] = some (.int .u32 (Int.ofNat (rrX 2 m))) := by kernel_rfl
theorem right6 (m : Nat) : run0 211 [.int .i64 (Int.ofNat 6), .int .u32 (Int.ofNat m)] = some (.int .u32 (Int.ofNat (rrX 6 m))) := by kernel_rfl
theorem right7 (m : Nat) : run0 211 [.int .i64 (Int.ofNat 7), .int .u32 (Int.ofNat m)] = some (.int .u32 (Int.ofNat (rrX 7 m))) := by kernel_rfl
theorem right11 (m : Nat) : run0 211 [.int .i64 (Int.ofNat 11), .int .u32 (Int.ofNat m)] = some (.int .u32 (Int.ofNat (rrX 11 m))) := by kernel_rfl
theorem right13 (m : Nat) : run0 211 [.int .i64 (Int.ofNat 13), .int .u32 (Int.ofNat m)] = some (.int .u32 (Int.ofNat (rrX 13 m))) := by kernel_rfl
theorem right17 (m : Nat) : run0 211 [.int .i64 (Int.ofNat 17), .int .u32 (Int.ofNat m)] = some (.int .u32 (Int.ofNat (rrX 17 m))) := by kernel_rfl
theorem right18 (m : Nat) : run0 211 [.int .i64 (Int.ofNat 18), .int .u32 (Int.ofNat m)] = some (.int .u32 (Int.ofNat (rrX 18 m))) := by kernel_rfl
theorem right19 (m : Nat) : run0 211 [.int .i64 (Int.ofNat 19), .int .u32 (Int.ofNat m)] = some (.int .u32 (Int.ofNat (rrX 19 m))) := by kernel_rfl
theorem right22 (m : Nat) : run0 211 [.int .i64 (Int.ofNat 22), .int .u32 (Int.ofNat m)] = some (.int .u32 (Int.ofNat (rrX 22 m))) := by kernel_rfl
theorem right25 (m : Nat) : run0 211 [.int .i64 (Int.ofNat 25), .int .u32 (Int.ofNat m)] = some (.int .u32 (Int.ofNat (rrX 25 m))) := by kernel_rfl
def rots : List Nat := [2, 6, 7, 11, 13, 17, 18, 19, 22, 25]
theorem right_all (n m : Nat) (h : n ∈ rots) : run0 211 [.int .i64 (Int.ofNat n), .int .u32 (Int.ofNat m)] = some (.int .u32 (Int.ofNat (rrX n m))) := by
  simp only [rots, List.mem_cons, List.not_mem_nil, or_false] at h
  rcases h with rfl | rfl | rfl | rfl | rfl | rfl | rfl | rfl | rfl | rfl
  · exact right2 m
  · exact right6 m
  · exact right7 m
  · exact right11 m
  · exact right13 m
  · exact right17 m
  · exact right18 m
  · exact right19 m
  · exact right22 m
  · exact right25 m
noncomputable def memF (n : Nat) (l : List Nat) : Bool := List.rec (motive := fun _ => Bool) false (fun x _ rest => bb (Nat.beq n x) true rest) l
theorem memF_mem {n : Nat} : ∀ {l : List Nat}, memF n l = true → n ∈ l
  | [], h => by cases h
  | x :: l, h => by
    have h : bb (Nat.beq n x) true (memF n l) = true := h
    rw [bb_ite, nat_beq] at h
    split at h
    · rename_i he; simp only [decide_eq_true_eq] at he; simp [he]
    · exact List.mem_cons_of_mem _ (memF_mem h)
noncomputable def rightV (n m : Int) : Option Value := Int.rec (motive := fun _ => Option Value) (fun n => Int.rec (motive := fun _ => Option Value) (fun m => bb (memF n rots) (some (.int .u32 (Int.ofNat (rrX n m)))) none) (fun _ => none) m) (fun _ => none) n
noncomputable def rightP (a b : Value) : Option Value := ob (asIntF a) fun p => ob (asIntF b) fun q => bb (kindF p.1 .i64) (bb (kindF q.1 .u32) (rightV p.2 q.2) none) none
noncomputable def rightF (args : List Value) : Option Value :=
  List.rec (motive := fun _ => Option Value) none (fun a l _ => List.rec (motive := fun _ => Option Value) none (fun b l _ => List.rec (motive := fun _ => Option Value) (rightP a b) (fun _ _ _ => none) l) l) args
theorem rightF_some {args : List Value} {v : Value} (h : rightF args = some v) : ∃ n m, n ∈ rots ∧ args = [.int .i64 (Int.ofNat n), .int .u32 (Int.ofNat m)] ∧ v = .int .u32 (Int.ofNat (rrX n m)) := by
  cases args with
  | nil => cases h
  | cons a l => cases l with
    | nil => cases h
    | cons b l => cases l with
      | cons c l => cases h
      | nil =>
        have h : rightP a b = some v := h
        cases a <;> try (cases h; done)
        cases b <;> try (cases h; done)
        rename_i j x k y _
        have h : bb (kindF j .i64) (bb (kindF k .u32) (rightV x y) none) none = some v := h
        simp only [bb_ite] at h
        split at h
        · rename_i h1
          split at h
          · rename_i h2
            obtain rfl := kindF_eq h1
            obtain rfl := kindF_eq h2
            cases x with
            | negSucc n => cases h
            | ofNat n => cases y with
              | negSucc m => cases h
              | ofNat m =>
                have h : bb (memF n rots) (some (.int .u32 (Int.ofNat (rrX n m)))) none = some v := h
                rw [bb_ite] at h
                split at h
                · rename_i h3
                  simp only [Option.some.injEq] at h
                  exact ⟨n, m, memF_mem h3, rfl, h.symm⟩
                · cases h
          · cases h
        · cases h
noncomputable def rightOrc : Orc := fun f => bb (Nat.beq f 211) (some rightF) none
theorem right_facts : OrcFacts Tryz.prog rightOrc := by
  intro f g args v h1 h2 h3 h4
  unfold rightOrc at h1
  rw [bb_ite, nat_beq] at h1
  split at h1
  case isFalse => cases h1
  rename_i he
  simp only [decide_eq_true_eq] at he
  subst he
  simp only [Option.some.injEq] at h1
  subst h1
  obtain ⟨n, m, hn, rfl, rfl⟩ := rightF_some h3
  exact fact_of_val (noFacts _) h2 h4 (right_all n m hn)
end Go.Proofs.YtedfhallhpkkhaaGreatDoor.X
