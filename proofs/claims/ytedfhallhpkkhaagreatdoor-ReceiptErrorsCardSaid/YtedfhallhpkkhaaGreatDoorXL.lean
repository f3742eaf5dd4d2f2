/- replevinlaw55.ReceiptErrors behind its first statement, by trees of runs. -/
import Derived.Test.YtedfhallhpkkhaaGreatDoorXF
set_option linter.unusedVariables false
set_option linter.unusedSimpArgs false
namespace Go.Proofs.YtedfhallhpkkhaaGreatDoor.X
open Go Go.RowKit

def rootV (r : Nat → Int) : Value := .agg ⟨[.int .u8 (r 0), .int .u8 (r 1), .int .u8 (r 2), .int .u8 (r 3), .int .u8 (r 4), .int .u8 (r 5), .int .u8 (r 6), .int .u8 (r 7), .int .u8 (r 8), .int .u8 (r 9), .int .u8 (r 10), .int .u8 (r 11), .int .u8 (r 12), .int .u8 (r 13), .int .u8 (r 14), .int .u8 (r 15), .int .u8 (r 16), .int .u8 (r 17), .int .u8 (r 18), .int .u8 (r 19), .int .u8 (r 20), .int .u8 (r 21), .int .u8 (r 22), .int .u8 (r 23), .int .u8 (r 24), .int .u8 (r 25), .int .u8 (r 26), .int .u8 (r 27), .int .u8 (r 28), .int .u8 (r 29), .int .u8 (r 30), .int .u8 (r 31)]⟩
def placeV (k : Int) (o : ByteArray) (n i : Int) (t : ByteArray) (at' : Int) : Value := .agg ⟨[.int .i64 k, .string o, .int .i64 n, .int .i64 i, .string t, .int .i64 at']⟩
def cut80 (s : ByteArray) : ByteArray := s.extract 0 (min (s.size : Int) 80).toNat
noncomputable def tail5 : Code := match (Tryz.prog.funcs[5]?).bind (fun f => f.body) with
  | some (Code.seq _ (Code.seq _ c)) => c
  | _ => Code.skip
/-- The temporaries behind the first statement. -/
def L5 (k n i at' m : Int) (o t : ByteArray) (r : Nat → Int) : List Value :=
  [placeV k o n i t at', .int .i64 m, rootV r, .pointer (some ⟨7, 0, none⟩), undef, .pointer (some ⟨8, 0, none⟩), .bool false, undef, undef, undef, undef, undef, undef, undef, undef, undef, undef, undef, undef, undef, .pointer (some ⟨7, 0, none⟩), .pointer (some ⟨7, 1, none⟩), .string o, .pointer (some ⟨7, 0, none⟩), .pointer (some ⟨7, 1, none⟩), .string o, .int .i64 ↑o.size, .int .i64 (min (↑o.size) 80), .string (cut80 o), .pointer (some ⟨7, 0, none⟩), .pointer (some ⟨7, 4, none⟩), .string t, .pointer (some ⟨7, 0, none⟩), .pointer (some ⟨7, 4, none⟩), .string t, .int .i64 ↑t.size, .int .i64 (min (↑t.size) 80), .string (cut80 t), .pointer (some ⟨7, 0, none⟩), .pointer (some ⟨7, 1, none⟩), .pointer (some ⟨7, 0, none⟩), .pointer (some ⟨7, 4, none⟩), undef, undef, undef, undef, undef, undef, undef, undef, undef, undef, undef, undef, undef, undef, undef, undef, undef, undef, undef, undef, undef, undef, undef, undef, undef, undef, undef, undef, undef, undef, undef, undef, undef, undef, undef, undef, undef, undef, undef, undef, undef, undef, undef, undef, undef, undef, undef, undef, undef, undef, undef, undef, undef, undef, undef, undef, undef, undef, undef, undef, undef, undef, undef, undef, undef]
noncomputable def la5 (k n i at' m : Int) (o t : ByteArray) (r : Nat → Int) : LAct := ⟨Option.rec (motive := fun _ => T Value) .nil (fun t => t) (enterF 107 (L5 k n i at' m o t r) 0 .nil), 107, []⟩
def cp5 (k n i at' : Int) (o t : ByteArray) : List Value := [.int .i64 k, .string (cut80 o), .int .i64 n, .int .i64 i, .string (cut80 t), .int .i64 at']
def cr5 (r : Nat → Int) : List Value := [.int .u8 (r 0), .int .u8 (r 1), .int .u8 (r 2), .int .u8 (r 3), .int .u8 (r 4), .int .u8 (r 5), .int .u8 (r 6), .int .u8 (r 7), .int .u8 (r 8), .int .u8 (r 9), .int .u8 (r 10), .int .u8 (r 11), .int .u8 (r 12), .int .u8 (r 13), .int .u8 (r 14), .int .u8 (r 15), .int .u8 (r 16), .int .u8 (r 17), .int .u8 (r 18), .int .u8 (r 19), .int .u8 (r 20), .int .u8 (r 21), .int .u8 (r 22), .int .u8 (r 23), .int .u8 (r 24), .int .u8 (r 25), .int .u8 (r 26), .int .u8 (r 27), .int .u8 (r 28), .int .u8 (r 29), .int .u8 (r 30), .int .u8 (r 31)]
noncomputable def lh5 (k n i at' : Int) (o t : ByteArray) (r : Nat → Int) : LH := ⟨T.set (T.set .nil 7 (some (.cells (cp5 k n i at' o t) 0))) 8 (some (.cells (cr5 r) 0)), 9⟩
noncomputable def tailOrc (nm : Value) (e : Int) : Orc := withTab 11 [([], .bool true)] (withTab 43 [([nm], .int .i64 e)] (fun _ => none))
def tailExp (nm : Value) (e : Int) : Exp := [(43, [nm], .int .i64 e)]
noncomputable abbrev nm5 (k n i : Int) (o t : ByteArray) : Value := nameV (.int .i64 k) (cut80 o) n i (cut80 t)
noncomputable def tailT (e k n i at' m : Int) (o t : ByteArray) (r : Nat → Int) (s : Sp) : BT (Res × Sp) :=
  prun Tryz.prog (tailOrc (nm5 k n i o t) e) (X.anyF Tryz.prog (tailOrc (nm5 k n i o t) e)) (tailExp (nm5 k n i o t) e) 3000 (.code none tail5 (la5 k n i at' m o t r) (lh5 k n i at' o t r)) s
noncomputable def isTrueF (v : Value) : Bool := Option.rec (motive := fun _ => Bool) false (fun b => b) (asBoolF v)
noncomputable def isNilL (l : List Nat) : Bool := List.rec (motive := fun _ => Bool) true (fun _ _ _ => false) l
noncomputable def goodEnd (r : Res × Sp) : Bool := Res.rec (motive := fun _ => Bool) (fun e a _ => LExit.rec (motive := fun _ => Bool) false (fun _ => false) (bb (isNilL a.marks) (Option.rec (motive := fun _ => Bool) false isTrueF (T.get a.tmps 6)) false) e) (fun _ _ => false) r.1
theorem goodEnd_some {r : Res} {s : Sp} (h : goodEnd (r, s) = true) : ∃ a lh, r = .code .ret a lh ∧ a.marks = [] ∧ a.tmps.get 6 = some (.bool true) := by
  cases r with
  | val v lh => cases h
  | code e a lh =>
    cases e with
    | normal => cases h
    | exit i => cases h
    | ret =>
      refine ⟨a, lh, rfl, ?_⟩
      replace h : bb (isNilL a.marks) (Option.rec (motive := fun _ => Bool) false isTrueF (T.get a.tmps 6)) false = true := h
      rw [bb_ite] at h
      split at h
      · rename_i hm
        refine ⟨?_, ?_⟩
        · cases hl : a.marks with
          | nil => rfl
          | cons x l => rw [hl] at hm; cases hm
        · cases hg : T.get a.tmps 6 with
          | none => rw [hg] at h; cases h
          | some v =>
            rw [hg] at h
            replace h : isTrueF v = true := h
            unfold isTrueF at h
            cases hv : asBoolF v with
            | none => rw [hv] at h; cases h
            | some b =>
              rw [hv] at h
              replace h : b = true := h
              rw [asBoolF_some hv, h]
      · cases h
theorem tA1 (at' : Int) (k n i m : Int) (o t : ByteArray) (r : Nat → Int) : (tailT 1 k n i at' m o t r (.go)).all goodEnd = true := by kernel_rfl
theorem tN1 (at' : Int) (k n i m : Int) (o t : ByteArray) (r : Nat → Int) : (tailT 1 k n i at' m o t r (.go)).needs = [veqL [nm5 k n i o t] [nm5 k n i o t], veqL [nm5 k n i o t] [nm5 k n i o t]] := by kernel_rfl
theorem tA2 (at' : Int) (k n i m : Int) (o t : ByteArray) (r : Nat → Int) : (tailT 2 k n i at' m o t r (.go)).all goodEnd = true := by kernel_rfl
theorem tN2 (at' : Int) (k n i m : Int) (o t : ByteArray) (r : Nat → Int) : (tailT 2 k n i at' m o t r (.go)).needs = [veqL [nm5 k n i o t] [nm5 k n i o t], veqL [nm5 k n i o t] [nm5 k n i o t]] := by kernel_rfl
theorem tA11 (at' : Int) (k n i m : Int) (o t : ByteArray) (r : Nat → Int) : (tailT 11 k n i at' m o t r (.go)).all goodEnd = true := by kernel_rfl
theorem tN11 (at' : Int) (k n i m : Int) (o t : ByteArray) (r : Nat → Int) : (tailT 11 k n i at' m o t r (.go)).needs = [veqL [nm5 k n i o t] [nm5 k n i o t], veqL [nm5 k n i o t] [nm5 k n i o t]] := by kernel_rfl
theorem tA12 (at' : Int) (k n i m : Int) (o t : ByteArray) (r : Nat → Int) : (tailT 12 k n i at' m o t r (.go)).all goodEnd = true := by kernel_rfl
theorem tN12 (at' : Int) (k n i m : Int) (o t : ByteArray) (r : Nat → Int) : (tailT 12 k n i at' m o t r (.go)).needs = [veqL [nm5 k n i o t] [nm5 k n i o t], veqL [nm5 k n i o t] [nm5 k n i o t]] := by kernel_rfl
theorem tA0n (j : Nat) (k n i m : Int) (o t : ByteArray) (r : Nat → Int) : (tailT 0 k n i (Int.negSucc j) m o t r (.go)).all goodEnd = true := by kernel_rfl
theorem tN0n (j : Nat) (k n i m : Int) (o t : ByteArray) (r : Nat → Int) : (tailT 0 k n i (Int.negSucc j) m o t r (.go)).needs = [veqL [nm5 k n i o t] [nm5 k n i o t], veqL [nm5 k n i o t] [nm5 k n i o t]] := by kernel_rfl
theorem tA0p (j : Nat) (k n i m : Int) (o t : ByteArray) (r : Nat → Int) : (tailT 0 k n i (Int.ofNat j) m o t r (.ask 38 (.ask 59 .go .go) (.ask 59 .go .go))).all goodEnd = true := by kernel_rfl
theorem tN0p (j : Nat) (k n i m : Int) (o t : ByteArray) (r : Nat → Int) : (tailT 0 k n i (Int.ofNat j) m o t r (.ask 38 (.ask 59 .go .go) (.ask 59 .go .go))).needs = [veqL [nm5 k n i o t] [nm5 k n i o t], veqL [nm5 k n i o t] [nm5 k n i o t], veqL [nm5 k n i o t] [nm5 k n i o t]] := by kernel_rfl
theorem kindF_self (k : IntKind) : kindF k k = true := by cases k <;> rfl
theorem veqL_nm (k n i : Int) (o t : ByteArray) : veqL [nm5 k n i o t] [nm5 k n i o t] = true := by simp [veqL, veq, nameV, kindF_self, intEqF_eq]
theorem tail_all {e : Int} (he : e = 0 ∨ e = 1 ∨ e = 2 ∨ e = 11 ∨ e = 12) (k n i at' m : Int) (o t : ByteArray) (r : Nat → Int) : ∃ s, (tailT e k n i at' m o t r s).all goodEnd = true ∧ ∀ c ∈ (tailT e k n i at' m o t r s).needs, c = true := by
  rcases he with rfl | rfl | rfl | rfl | rfl
  · cases at' with
    | negSucc j => exact ⟨_, tA0n j k n i m o t r, fun c hc => by rw [tN0n] at hc; simp only [List.mem_cons, List.not_mem_nil, or_false, veqL_nm, or_self] at hc; exact hc⟩
    | ofNat j => exact ⟨_, tA0p j k n i m o t r, fun c hc => by rw [tN0p] at hc; simp only [List.mem_cons, List.not_mem_nil, or_false, veqL_nm, or_self] at hc; exact hc⟩
  · exact ⟨_, tA1 at' k n i m o t r, fun c hc => by rw [tN1] at hc; simp only [List.mem_cons, List.not_mem_nil, or_false, veqL_nm, or_self] at hc; exact hc⟩
  · exact ⟨_, tA2 at' k n i m o t r, fun c hc => by rw [tN2] at hc; simp only [List.mem_cons, List.not_mem_nil, or_false, veqL_nm, or_self] at hc; exact hc⟩
  · exact ⟨_, tA11 at' k n i m o t r, fun c hc => by rw [tN11] at hc; simp only [List.mem_cons, List.not_mem_nil, or_false, veqL_nm, or_self] at hc; exact hc⟩
  · exact ⟨_, tA12 at' k n i m o t r, fun c hc => by rw [tN12] at hc; simp only [List.mem_cons, List.not_mem_nil, or_false, veqL_nm, or_self] at hc; exact hc⟩
end Go.Proofs.YtedfhallhpkkhaaGreatDoor.X
