/- object.Name.Check gives an error number for every name: trees of runs, a kind each. -/
import Derived.Test.YtedfhallhpkkhaaGreatDoorXB
import Derived.Test.YtedfhallhpkkhaaGreatDoorXE
set_option linter.unusedVariables false
set_option linter.unusedSimpArgs false
namespace Go.Proofs.YtedfhallhpkkhaaGreatDoor.X
open Go Go.RowKit

noncomputable def isErr (v : Value) : Bool := bb (veq v (.int .i64 0)) true (bb (veq v (.int .i64 1)) true (bb (veq v (.int .i64 2)) true (bb (veq v (.int .i64 11)) true (veq v (.int .i64 12)))))
theorem isErr_some {v : Value} (h : isErr v = true) : ∃ e : Int, (e = 0 ∨ e = 1 ∨ e = 2 ∨ e = 11 ∨ e = 12) ∧ v = .int .i64 e := by
  unfold isErr at h
  simp only [bb_ite] at h
  split at h
  · rename_i h1; exact ⟨0, by simp, veq_eq _ _ h1⟩
  · split at h
    · rename_i h1; exact ⟨1, by simp, veq_eq _ _ h1⟩
    · split at h
      · rename_i h1; exact ⟨2, by simp, veq_eq _ _ h1⟩
      · split at h
        · rename_i h1; exact ⟨11, by simp, veq_eq _ _ h1⟩
        · exact ⟨12, by simp, veq_eq _ _ h⟩
theorem fact_of_treeE {P : Program} {orc : Orc} {exp : Exp} {n : Nat} {f : FuncId} {args : List Value} {s : Sp} (ho : OrcFacts P orc) (hx : ExpOk P orc exp) (hp : plainL args = true)
    (hr : (prun P orc (X.anyF P orc) exp n (.call f args ⟨.nil, 7⟩) s).all (resIs isErr) = true) (hn : ∀ c ∈ (prun P orc (X.anyF P orc) exp n (.call f args ⟨.nil, 7⟩) s).needs, c = true) : ∃ e : Int, (e = 0 ∨ e = 1 ∨ e = 2 ∨ e = 11 ∨ e = 12) ∧ Fact P f args (.int .i64 e) := by
  obtain ⟨⟨r, s'⟩, h1, h2⟩ := all_get hr hn
  have h3 := prun_ok P orc _ exp hx n _ _ _ _ h1
  cases r with
  | code e a h => cases h2
  | val v h =>
    obtain ⟨e, he, rfl⟩ := isErr_some (show isErr v = true from h2)
    refine ⟨e, he, fact_of_val (n := n) ho hp rfl ?_⟩
    rw [h3]
    rfl
def nameV (k : Value) (o : ByteArray) (n i : Int) (t : ByteArray) : Value := .agg ⟨[k, .string o, .int .i64 n, .int .i64 i, .string t]⟩
noncomputable def chkOrc (o t : ByteArray) (b1 b2 : Bool) : Orc := withTab 109 [([.string o], .bool b1)] (withTab 111 [([.string t], .bool b2)] usesOrc)
def chkExp (o t : ByteArray) (b1 b2 : Bool) : Exp := [(109, [.string o], .bool b1), (111, [.string t], .bool b2)]
noncomputable abbrev chkT (k : Value) (o : ByteArray) (n i : Int) (t : ByteArray) (b1 b2 : Bool) (s : Sp) : BT (Res × Sp) :=
  prun Tryz.prog (chkOrc o t b1 b2) (X.anyF Tryz.prog (chkOrc o t b1 b2)) (chkExp o t b1 b2) 200 (.call 43 [nameV k o n i t] ⟨.nil, 7⟩) s
noncomputable abbrev chkA (k : Value) (o : ByteArray) (n i : Int) (t : ByteArray) (b1 b2 : Bool) (s : Sp) : Bool := (chkT k o n i t b1 b2 s).all (resIs isErr)
noncomputable abbrev chkN (k : Value) (o : ByteArray) (n i : Int) (t : ByteArray) (b1 b2 : Bool) (s : Sp) : List Bool := (chkT k o n i t b1 b2 s).needs
theorem chk1 (o t : ByteArray) (n i : Int) (b1 b2 : Bool) : chkA (.int .i64 (Int.ofNat 1)) o n i t b1 b2 (.ask 35 .go (.ask 45 .go (.ask 16 .go (.ask 55 .go (.ask 5 (.ask 69 .go (.ask 74 .go (.ask 64 .go (.go)))) .go))))) = true := by kernel_rfl
theorem chn1 (o t : ByteArray) (n i : Int) (b1 b2 : Bool) : chkN (.int .i64 (Int.ofNat 1)) o n i t b1 b2 (.ask 35 .go (.ask 45 .go (.ask 16 .go (.ask 55 .go (.ask 5 (.ask 69 .go (.ask 74 .go (.ask 64 .go (.go)))) .go))))) = [veqL [.string o] [.string o]] := by kernel_rfl
theorem chk2 (o t : ByteArray) (n i : Int) (b1 b2 : Bool) : chkA (.int .i64 (Int.ofNat 2)) o n i t b1 b2 (.ask 35 .go (.ask 45 .go (.ask 16 .go (.ask 55 .go (.ask 5 (.ask 69 .go (.ask 74 .go (.ask 64 .go (.go)))) .go))))) = true := by kernel_rfl
theorem chn2 (o t : ByteArray) (n i : Int) (b1 b2 : Bool) : chkN (.int .i64 (Int.ofNat 2)) o n i t b1 b2 (.ask 35 .go (.ask 45 .go (.ask 16 .go (.ask 55 .go (.ask 5 (.ask 69 .go (.ask 74 .go (.ask 64 .go (.go)))) .go))))) = [veqL [.string o] [.string o]] := by kernel_rfl
theorem chk3 (o t : ByteArray) (n i : Int) (b1 b2 : Bool) : chkA (.int .i64 (Int.ofNat 3)) o n i t b1 b2 (.ask 35 .go (.ask 16 .go (.ask 55 .go (.ask 5 (.ask 69 .go (.ask 74 .go (.ask 64 .go (.go)))) .go)))) = true := by kernel_rfl
theorem chn3 (o t : ByteArray) (n i : Int) (b1 b2 : Bool) : chkN (.int .i64 (Int.ofNat 3)) o n i t b1 b2 (.ask 35 .go (.ask 16 .go (.ask 55 .go (.ask 5 (.ask 69 .go (.ask 74 .go (.ask 64 .go (.go)))) .go)))) = [veqL [.string o] [.string o]] := by kernel_rfl
theorem chk4 (o t : ByteArray) (n i : Int) (b1 b2 : Bool) : chkA (.int .i64 (Int.ofNat 4)) o n i t b1 b2 (.ask 35 .go (.ask 45 .go (.ask 16 .go (.ask 55 .go (.ask 5 (.ask 69 .go (.ask 74 .go (.ask 64 .go (.go)))) .go))))) = true := by kernel_rfl
theorem chn4 (o t : ByteArray) (n i : Int) (b1 b2 : Bool) : chkN (.int .i64 (Int.ofNat 4)) o n i t b1 b2 (.ask 35 .go (.ask 45 .go (.ask 16 .go (.ask 55 .go (.ask 5 (.ask 69 .go (.ask 74 .go (.ask 64 .go (.go)))) .go))))) = [veqL [.string o] [.string o]] := by kernel_rfl
theorem chk5 (o t : ByteArray) (n i : Int) (b1 b2 : Bool) : chkA (.int .i64 (Int.ofNat 5)) o n i t b1 b2 (.ask 35 .go (.ask 45 .go (.ask 16 .go (.ask 55 .go (.ask 5 (.ask 69 .go (.ask 74 .go (.ask 64 .go (.go)))) .go))))) = true := by kernel_rfl
theorem chn5 (o t : ByteArray) (n i : Int) (b1 b2 : Bool) : chkN (.int .i64 (Int.ofNat 5)) o n i t b1 b2 (.ask 35 .go (.ask 45 .go (.ask 16 .go (.ask 55 .go (.ask 5 (.ask 69 .go (.ask 74 .go (.ask 64 .go (.go)))) .go))))) = [veqL [.string o] [.string o]] := by kernel_rfl
theorem chk6 (o t : ByteArray) (n i : Int) (b1 b2 : Bool) : chkA (.int .i64 (Int.ofNat 6)) o n i t b1 b2 (.ask 35 .go (.ask 45 .go (.ask 16 .go (.ask 55 .go (.ask 5 (.ask 69 .go (.ask 74 .go (.ask 64 .go (.go)))) .go))))) = true := by kernel_rfl
theorem chn6 (o t : ByteArray) (n i : Int) (b1 b2 : Bool) : chkN (.int .i64 (Int.ofNat 6)) o n i t b1 b2 (.ask 35 .go (.ask 45 .go (.ask 16 .go (.ask 55 .go (.ask 5 (.ask 69 .go (.ask 74 .go (.ask 64 .go (.go)))) .go))))) = [veqL [.string o] [.string o]] := by kernel_rfl
theorem chk7 (o t : ByteArray) (n i : Int) (b1 b2 : Bool) : chkA (.int .i64 (Int.ofNat 7)) o n i t b1 b2 (.ask 45 .go (.ask 16 .go (.ask 55 .go (.ask 5 (.ask 69 .go (.ask 74 .go (.ask 64 .go (.go)))) .go)))) = true := by kernel_rfl
theorem chn7 (o t : ByteArray) (n i : Int) (b1 b2 : Bool) : chkN (.int .i64 (Int.ofNat 7)) o n i t b1 b2 (.ask 45 .go (.ask 16 .go (.ask 55 .go (.ask 5 (.ask 69 .go (.ask 74 .go (.ask 64 .go (.go)))) .go)))) = [veqL [.string o] [.string o]] := by kernel_rfl
theorem chk8 (o t : ByteArray) (n i : Int) (b1 b2 : Bool) : chkA (.int .i64 (Int.ofNat 8)) o n i t b1 b2 (.ask 16 .go (.ask 55 .go (.ask 5 (.ask 69 .go (.ask 74 .go (.ask 64 .go (.go)))) .go))) = true := by kernel_rfl
theorem chn8 (o t : ByteArray) (n i : Int) (b1 b2 : Bool) : chkN (.int .i64 (Int.ofNat 8)) o n i t b1 b2 (.ask 16 .go (.ask 55 .go (.ask 5 (.ask 69 .go (.ask 74 .go (.ask 64 .go (.go)))) .go))) = [veqL [.string o] [.string o]] := by kernel_rfl
theorem chk9 (o t : ByteArray) (n i : Int) (b1 b2 : Bool) : chkA (.int .i64 (Int.ofNat 9)) o n i t b1 b2 (.ask 45 .go (.ask 55 .go (.ask 5 (.ask 69 .go (.ask 74 .go (.ask 64 .go (.ask 82 .go .go)))) .go))) = true := by kernel_rfl
theorem chn9 (o t : ByteArray) (n i : Int) (b1 b2 : Bool) : chkN (.int .i64 (Int.ofNat 9)) o n i t b1 b2 (.ask 45 .go (.ask 55 .go (.ask 5 (.ask 69 .go (.ask 74 .go (.ask 64 .go (.ask 82 .go .go)))) .go))) = [veqL [.string o] [.string o], veqL [.string t] [.string t]] := by kernel_rfl
theorem chk10 (o t : ByteArray) (n i : Int) (b1 b2 : Bool) : chkA (.int .i64 (Int.ofNat 10)) o n i t b1 b2 (.ask 45 .go (.ask 16 .go (.ask 55 .go (.ask 5 (.ask 69 .go (.ask 74 .go (.ask 64 .go (.go)))) .go)))) = true := by kernel_rfl
theorem chn10 (o t : ByteArray) (n i : Int) (b1 b2 : Bool) : chkN (.int .i64 (Int.ofNat 10)) o n i t b1 b2 (.ask 45 .go (.ask 16 .go (.ask 55 .go (.ask 5 (.ask 69 .go (.ask 74 .go (.ask 64 .go (.go)))) .go)))) = [veqL [.string o] [.string o]] := by kernel_rfl
theorem chk11 (o t : ByteArray) (n i : Int) (b1 b2 : Bool) : chkA (.int .i64 (Int.ofNat 11)) o n i t b1 b2 (.ask 45 .go (.ask 16 .go (.ask 55 .go (.ask 5 (.ask 69 .go (.ask 74 .go (.ask 64 .go (.go)))) .go)))) = true := by kernel_rfl
theorem chn11 (o t : ByteArray) (n i : Int) (b1 b2 : Bool) : chkN (.int .i64 (Int.ofNat 11)) o n i t b1 b2 (.ask 45 .go (.ask 16 .go (.ask 55 .go (.ask 5 (.ask 69 .go (.ask 74 .go (.ask 64 .go (.go)))) .go)))) = [veqL [.string o] [.string o]] := by kernel_rfl
theorem chk12 (o t : ByteArray) (n i : Int) (b1 b2 : Bool) : chkA (.int .i64 (Int.ofNat 12)) o n i t b1 b2 (.ask 45 .go (.ask 16 .go (.ask 55 .go (.ask 5 (.ask 69 .go (.ask 74 .go (.ask 64 .go (.go)))) .go)))) = true := by kernel_rfl
theorem chn12 (o t : ByteArray) (n i : Int) (b1 b2 : Bool) : chkN (.int .i64 (Int.ofNat 12)) o n i t b1 b2 (.ask 45 .go (.ask 16 .go (.ask 55 .go (.ask 5 (.ask 69 .go (.ask 74 .go (.ask 64 .go (.go)))) .go)))) = [veqL [.string o] [.string o]] := by kernel_rfl
theorem chk13 (o t : ByteArray) (n i : Int) (b1 b2 : Bool) : chkA (.int .i64 (Int.ofNat 13)) o n i t b1 b2 (.ask 25 .go (.ask 45 .go (.ask 16 .go (.ask 5 (.ask 69 .go (.ask 74 .go (.ask 64 .go (.go)))) .go)))) = true := by kernel_rfl
theorem chn13 (o t : ByteArray) (n i : Int) (b1 b2 : Bool) : chkN (.int .i64 (Int.ofNat 13)) o n i t b1 b2 (.ask 25 .go (.ask 45 .go (.ask 16 .go (.ask 5 (.ask 69 .go (.ask 74 .go (.ask 64 .go (.go)))) .go)))) = [] := by kernel_rfl
theorem chk14 (o t : ByteArray) (n i : Int) (b1 b2 : Bool) : chkA (.int .i64 (Int.ofNat 14)) o n i t b1 b2 (.ask 25 .go (.ask 35 .go (.ask 45 .go (.ask 5 (.ask 69 .go (.ask 74 .go (.ask 64 .go (.ask 82 .go .go)))) .go)))) = true := by kernel_rfl
theorem chn14 (o t : ByteArray) (n i : Int) (b1 b2 : Bool) : chkN (.int .i64 (Int.ofNat 14)) o n i t b1 b2 (.ask 25 .go (.ask 35 .go (.ask 45 .go (.ask 5 (.ask 69 .go (.ask 74 .go (.ask 64 .go (.ask 82 .go .go)))) .go)))) = [veqL [.string t] [.string t]] := by kernel_rfl
theorem chk15 (o t : ByteArray) (n i : Int) (b1 b2 : Bool) : chkA (.int .i64 (Int.ofNat 15)) o n i t b1 b2 (.ask 25 .go (.ask 35 .go (.ask 45 .go (.ask 16 .go (.ask 5 (.ask 69 .go (.ask 74 .go (.ask 64 .go (.go)))) .go))))) = true := by kernel_rfl
theorem chn15 (o t : ByteArray) (n i : Int) (b1 b2 : Bool) : chkN (.int .i64 (Int.ofNat 15)) o n i t b1 b2 (.ask 25 .go (.ask 35 .go (.ask 45 .go (.ask 16 .go (.ask 5 (.ask 69 .go (.ask 74 .go (.ask 64 .go (.go)))) .go))))) = [] := by kernel_rfl
theorem chk16 (o t : ByteArray) (n i : Int) (b1 b2 : Bool) : chkA (.int .i64 (Int.ofNat 16)) o n i t b1 b2 (.ask 25 .go (.ask 45 .go (.ask 16 .go (.ask 5 (.ask 69 .go (.ask 74 .go (.ask 64 .go (.go)))) .go)))) = true := by kernel_rfl
theorem chn16 (o t : ByteArray) (n i : Int) (b1 b2 : Bool) : chkN (.int .i64 (Int.ofNat 16)) o n i t b1 b2 (.ask 25 .go (.ask 45 .go (.ask 16 .go (.ask 5 (.ask 69 .go (.ask 74 .go (.ask 64 .go (.go)))) .go)))) = [] := by kernel_rfl
theorem chk17 (o t : ByteArray) (n i : Int) (b1 b2 : Bool) : chkA (.int .i64 (Int.ofNat 17)) o n i t b1 b2 (.ask 25 .go (.ask 35 .go (.ask 45 .go (.ask 5 (.ask 69 .go (.ask 74 .go (.ask 64 .go (.ask 82 .go .go)))) .go)))) = true := by kernel_rfl
theorem chn17 (o t : ByteArray) (n i : Int) (b1 b2 : Bool) : chkN (.int .i64 (Int.ofNat 17)) o n i t b1 b2 (.ask 25 .go (.ask 35 .go (.ask 45 .go (.ask 5 (.ask 69 .go (.ask 74 .go (.ask 64 .go (.ask 82 .go .go)))) .go)))) = [veqL [.string t] [.string t]] := by kernel_rfl
theorem chk18 (o t : ByteArray) (n i : Int) (b1 b2 : Bool) : chkA (.int .i64 (Int.ofNat 18)) o n i t b1 b2 (.ask 16 .go (.ask 55 .go (.ask 5 (.ask 69 .go (.ask 74 .go (.ask 64 .go (.go)))) .go))) = true := by kernel_rfl
theorem chn18 (o t : ByteArray) (n i : Int) (b1 b2 : Bool) : chkN (.int .i64 (Int.ofNat 18)) o n i t b1 b2 (.ask 16 .go (.ask 55 .go (.ask 5 (.ask 69 .go (.ask 74 .go (.ask 64 .go (.go)))) .go))) = [veqL [.string o] [.string o]] := by kernel_rfl
theorem chk19 (o t : ByteArray) (n i : Int) (b1 b2 : Bool) : chkA (.int .i64 (Int.ofNat 19)) o n i t b1 b2 (.ask 35 .go (.ask 45 .go (.ask 16 .go (.ask 55 .go (.ask 5 (.ask 69 .go (.ask 74 .go (.ask 64 .go (.go)))) .go))))) = true := by kernel_rfl
theorem chn19 (o t : ByteArray) (n i : Int) (b1 b2 : Bool) : chkN (.int .i64 (Int.ofNat 19)) o n i t b1 b2 (.ask 35 .go (.ask 45 .go (.ask 16 .go (.ask 55 .go (.ask 5 (.ask 69 .go (.ask 74 .go (.ask 64 .go (.go)))) .go))))) = [veqL [.string o] [.string o]] := by kernel_rfl
theorem chk20 (o t : ByteArray) (n i : Int) (b1 b2 : Bool) : chkA (.int .i64 (Int.ofNat 20)) o n i t b1 b2 (.ask 25 .go (.ask 35 .go (.ask 45 .go (.ask 16 .go (.ask 5 (.ask 69 .go (.ask 74 .go (.ask 64 .go (.go)))) .go))))) = true := by kernel_rfl
theorem chn20 (o t : ByteArray) (n i : Int) (b1 b2 : Bool) : chkN (.int .i64 (Int.ofNat 20)) o n i t b1 b2 (.ask 25 .go (.ask 35 .go (.ask 45 .go (.ask 16 .go (.ask 5 (.ask 69 .go (.ask 74 .go (.ask 64 .go (.go)))) .go))))) = [] := by kernel_rfl
theorem chkAneg (m : Nat) (o t : ByteArray) (n i : Int) (b1 b2 : Bool) : chkA (.int .i64 (Int.negSucc m)) o n i t b1 b2 .go = true := by kernel_rfl
theorem chkNneg (m : Nat) (o t : ByteArray) (n i : Int) (b1 b2 : Bool) : chkN (.int .i64 (Int.negSucc m)) o n i t b1 b2 .go = [] := by kernel_rfl
theorem chkA0 (o t : ByteArray) (n i : Int) (b1 b2 : Bool) : chkA (.int .i64 (Int.ofNat 0)) o n i t b1 b2 .go = true := by kernel_rfl
theorem chkN0 (o t : ByteArray) (n i : Int) (b1 b2 : Bool) : chkN (.int .i64 (Int.ofNat 0)) o n i t b1 b2 .go = [] := by kernel_rfl
theorem chkAbig (m : Nat) (o t : ByteArray) (n i : Int) (b1 b2 : Bool) : chkA (.int .i64 (Int.ofNat (m + 21))) o n i t b1 b2 .go = true := by kernel_rfl
theorem chkNbig (m : Nat) (o t : ByteArray) (n i : Int) (b1 b2 : Bool) : chkN (.int .i64 (Int.ofNat (m + 21))) o n i t b1 b2 .go = [] := by kernel_rfl

theorem veqL_str (o : ByteArray) : veqL [.string o] [.string o] = true := by simp [veqL, veq]
theorem chk_all (k : Int) (o t : ByteArray) (n i : Int) (b1 b2 : Bool) : ∃ s, chkA (.int .i64 k) o n i t b1 b2 s = true ∧ ∀ c ∈ chkN (.int .i64 k) o n i t b1 b2 s, c = true := by
  cases k with
  | negSucc m => exact ⟨_, chkAneg m o t n i b1 b2, fun c hc => by rw [chkNneg] at hc; cases hc⟩
  | ofNat m =>
    by_cases hm : 21 ≤ m
    · obtain ⟨j, rfl⟩ : ∃ j, m = j + 21 := ⟨m - 21, by omega⟩
      exact ⟨_, chkAbig j o t n i b1 b2, fun c hc => by rw [chkNbig] at hc; cases hc⟩
    · have hall : m = 0 ∨ m = 1 ∨ m = 2 ∨ m = 3 ∨ m = 4 ∨ m = 5 ∨ m = 6 ∨ m = 7 ∨ m = 8 ∨ m = 9 ∨ m = 10 ∨ m = 11 ∨ m = 12 ∨ m = 13 ∨ m = 14 ∨ m = 15 ∨ m = 16 ∨ m = 17 ∨ m = 18 ∨ m = 19 ∨ m = 20 := by omega
      rcases hall with rfl | rfl | rfl | rfl | rfl | rfl | rfl | rfl | rfl | rfl | rfl | rfl | rfl | rfl | rfl | rfl | rfl | rfl | rfl | rfl | rfl
      · exact ⟨_, chkA0 o t n i b1 b2, fun c hc => by rw [chkN0] at hc; cases hc⟩
      · exact ⟨_, chk1 o t n i b1 b2, fun c hc => by rw [chn1] at hc; simp only [List.mem_cons, List.not_mem_nil, or_false, veqL_str, or_self] at hc; first | done | exact hc | exact hc.elim⟩
      · exact ⟨_, chk2 o t n i b1 b2, fun c hc => by rw [chn2] at hc; simp only [List.mem_cons, List.not_mem_nil, or_false, veqL_str, or_self] at hc; first | done | exact hc | exact hc.elim⟩
      · exact ⟨_, chk3 o t n i b1 b2, fun c hc => by rw [chn3] at hc; simp only [List.mem_cons, List.not_mem_nil, or_false, veqL_str, or_self] at hc; first | done | exact hc | exact hc.elim⟩
      · exact ⟨_, chk4 o t n i b1 b2, fun c hc => by rw [chn4] at hc; simp only [List.mem_cons, List.not_mem_nil, or_false, veqL_str, or_self] at hc; first | done | exact hc | exact hc.elim⟩
      · exact ⟨_, chk5 o t n i b1 b2, fun c hc => by rw [chn5] at hc; simp only [List.mem_cons, List.not_mem_nil, or_false, veqL_str, or_self] at hc; first | done | exact hc | exact hc.elim⟩
      · exact ⟨_, chk6 o t n i b1 b2, fun c hc => by rw [chn6] at hc; simp only [List.mem_cons, List.not_mem_nil, or_false, veqL_str, or_self] at hc; first | done | exact hc | exact hc.elim⟩
      · exact ⟨_, chk7 o t n i b1 b2, fun c hc => by rw [chn7] at hc; simp only [List.mem_cons, List.not_mem_nil, or_false, veqL_str, or_self] at hc; first | done | exact hc | exact hc.elim⟩
      · exact ⟨_, chk8 o t n i b1 b2, fun c hc => by rw [chn8] at hc; simp only [List.mem_cons, List.not_mem_nil, or_false, veqL_str, or_self] at hc; first | done | exact hc | exact hc.elim⟩
      · exact ⟨_, chk9 o t n i b1 b2, fun c hc => by rw [chn9] at hc; simp only [List.mem_cons, List.not_mem_nil, or_false, veqL_str, or_self] at hc; first | done | exact hc | exact hc.elim⟩
      · exact ⟨_, chk10 o t n i b1 b2, fun c hc => by rw [chn10] at hc; simp only [List.mem_cons, List.not_mem_nil, or_false, veqL_str, or_self] at hc; first | done | exact hc | exact hc.elim⟩
      · exact ⟨_, chk11 o t n i b1 b2, fun c hc => by rw [chn11] at hc; simp only [List.mem_cons, List.not_mem_nil, or_false, veqL_str, or_self] at hc; first | done | exact hc | exact hc.elim⟩
      · exact ⟨_, chk12 o t n i b1 b2, fun c hc => by rw [chn12] at hc; simp only [List.mem_cons, List.not_mem_nil, or_false, veqL_str, or_self] at hc; first | done | exact hc | exact hc.elim⟩
      · exact ⟨_, chk13 o t n i b1 b2, fun c hc => by rw [chn13] at hc; simp only [List.mem_cons, List.not_mem_nil, or_false, veqL_str, or_self] at hc; first | done | exact hc | exact hc.elim⟩
      · exact ⟨_, chk14 o t n i b1 b2, fun c hc => by rw [chn14] at hc; simp only [List.mem_cons, List.not_mem_nil, or_false, veqL_str, or_self] at hc; first | done | exact hc | exact hc.elim⟩
      · exact ⟨_, chk15 o t n i b1 b2, fun c hc => by rw [chn15] at hc; simp only [List.mem_cons, List.not_mem_nil, or_false, veqL_str, or_self] at hc; first | done | exact hc | exact hc.elim⟩
      · exact ⟨_, chk16 o t n i b1 b2, fun c hc => by rw [chn16] at hc; simp only [List.mem_cons, List.not_mem_nil, or_false, veqL_str, or_self] at hc; first | done | exact hc | exact hc.elim⟩
      · exact ⟨_, chk17 o t n i b1 b2, fun c hc => by rw [chn17] at hc; simp only [List.mem_cons, List.not_mem_nil, or_false, veqL_str, or_self] at hc; first | done | exact hc | exact hc.elim⟩
      · exact ⟨_, chk18 o t n i b1 b2, fun c hc => by rw [chn18] at hc; simp only [List.mem_cons, List.not_mem_nil, or_false, veqL_str, or_self] at hc; first | done | exact hc | exact hc.elim⟩
      · exact ⟨_, chk19 o t n i b1 b2, fun c hc => by rw [chn19] at hc; simp only [List.mem_cons, List.not_mem_nil, or_false, veqL_str, or_self] at hc; first | done | exact hc | exact hc.elim⟩
      · exact ⟨_, chk20 o t n i b1 b2, fun c hc => by rw [chn20] at hc; simp only [List.mem_cons, List.not_mem_nil, or_false, veqL_str, or_self] at hc; first | done | exact hc | exact hc.elim⟩
theorem tabF_one (args : List Value) (v : Value) (h : veqL args args = true) : tabF [(args, v)] args = some v := by
  show bb (veqL args args) (some v) (tabF [] args) = some v
  rw [h]
  rfl
theorem check_fact {k n i : Int} {o t : ByteArray} {b1 b2 : Bool} (h1 : Fact Tryz.prog 109 [.string o] (.bool b1)) (h2 : Fact Tryz.prog 111 [.string t] (.bool b2)) : ∃ e : Int, (e = 0 ∨ e = 1 ∨ e = 2 ∨ e = 11 ∨ e = 12) ∧ Fact Tryz.prog 43 [nameV (.int .i64 k) o n i t] (.int .i64 e) := by
  obtain ⟨s, ha, hn⟩ := chk_all k o t n i b1 b2
  refine fact_of_treeE (orc := chkOrc o t b1 b2) (exp := chkExp o t b1 b2) (n := 200) (s := s) ?_ ?_ rfl ha hn
  · refine withTab_facts (fun p hp => ?_) (withTab_facts (fun p hp => ?_) uses_facts)
    · simp only [List.mem_cons, List.not_mem_nil, or_false] at hp; subst hp; exact h1
    · simp only [List.mem_cons, List.not_mem_nil, or_false] at hp; subst hp; exact h2
  · intro f args v hm
    simp only [chkExp, List.mem_cons, List.not_mem_nil, or_false, Prod.mk.injEq] at hm
    rcases hm with ⟨rfl, rfl, rfl⟩ | ⟨rfl, rfl, rfl⟩
    · exact ⟨_, rfl, by kernel_rfl, rfl, tabF_one _ _ (veqL_str o), rfl⟩
    · exact ⟨_, rfl, by kernel_rfl, rfl, tabF_one _ _ (veqL_str t), rfl⟩
end Go.Proofs.YtedfhallhpkkhaaGreatDoor.X
