/- object.Word gives a truth value for every text: strings.ContainsFunc by the shelf's contract; a tree of runs. -/
import Derived.Test.YtedfhallhpkkhaaGreatDoorXF
import Derived.Shelf.GgClosure.StringsIndexFuncTop
import Derived.Test.YtedfhallhpkkhaaGreatDoorY3
import Derived.WalkKit
set_option linter.unusedVariables false
set_option linter.unusedSimpArgs false
namespace Go.Proofs.YtedfhallhpkkhaaGreatDoor.X
open Go Go.Shelf Go.RowKit Go.Lib

theorem oddRune (w : World) : PredAt Tryz.prog 164 #[] encR (fun r => decide (r ≤ 32) || (decide (126 < r) || decide (r = 47))) w := fun W r _ => by
  unfold FnGives
  by_cases h1 : r ≤ 32 <;> by_cases h2 : 126 < r <;> by_cases h3 : r = 47
  all_goals
    have z1 : (r : Int) ≤ 32 ↔ r ≤ 32 := by omega
    have z2 : (126 : Int) < (r : Int) ↔ 126 < r := by omega
    have z3 : (r : Int) = 47 ↔ r = 47 := by omega
    go_enter Tryz.func164, Tryz.ntmps164
    go_wp2
    all_goals first | (exfalso; omega) | (go_ret; exact ⟨by simp [h1, h2, h3] <;> omega, 0, rfl⟩)
theorem contains_fact (s : ByteArray) : Fact Tryz.prog 165 [.string s, .func (.func 164) #[] #[]] (.bool (decide (0 ≤ Lib.idxFunc (fun r => decide (r ≤ 32) || (decide (126 < r) || decide (r = 47))) true s))) := fun w _ => by
  have h := Any.strings_ContainsFunc Tryz.l17 164 #[] (enters_of Tryz.func164 (by kernel_rfl) rfl) _ s w (oddRune w)
  exact h
noncomputable def contB (s : ByteArray) : Bool := decide (0 ≤ Lib.idxFunc (fun r => decide (r ≤ 32) || (decide (126 < r) || decide (r = 47))) true s)
noncomputable def contF (args : List Value) : Option Value :=
  match args with
  | [.string s, .func (.func f) ⟨[]⟩ ⟨[]⟩] => if f = 164 then some (.bool (contB s)) else none
  | _ => none
noncomputable def contOrc : Orc := fun f => bb (Nat.beq f 165) (some contF) none
theorem cont_facts : OrcFacts Tryz.prog contOrc := by
  intro f g args v h1 h2 h3 h4
  unfold contOrc at h1
  rw [bb_ite, nat_beq] at h1
  split at h1
  case isFalse => cases h1
  rename_i he
  simp only [decide_eq_true_eq] at he
  subst he
  simp only [Option.some.injEq] at h1
  subst h1
  unfold contF at h3
  split at h3
  case h_2 => cases h3
  split at h3
  case isFalse => cases h3
  rename_i s f hf
  subst hf
  simp only [Option.some.injEq] at h3
  subst h3
  exact contains_fact s
noncomputable def isBoolF (v : Value) : Bool := Option.rec (motive := fun _ => Bool) false (fun _ => true) (asBoolF v)
theorem isBoolF_some {v : Value} (h : isBoolF v = true) : ∃ b, v = .bool b := by
  unfold isBoolF at h
  cases hv : asBoolF v with
  | none => rw [hv] at h; cases h
  | some b => exact ⟨b, asBoolF_some hv⟩
theorem fact_of_treeB {P : Program} {orc : Orc} {exp : Exp} {n : Nat} {f : FuncId} {args : List Value} {s : Sp} (ho : OrcFacts P orc) (hx : ExpOk P orc exp) (hp : plainL args = true)
    (hr : (prun P orc (X.anyF P orc) exp n (.call f args ⟨.nil, 7⟩) s).all (resIs isBoolF) = true) (hn : ∀ c ∈ (prun P orc (X.anyF P orc) exp n (.call f args ⟨.nil, 7⟩) s).needs, c = true) : ∃ b : Bool, Fact P f args (.bool b) := by
  obtain ⟨⟨r, s'⟩, h1, h2⟩ := all_get hr hn
  have h3 := prun_ok P orc _ exp hx n _ _ _ _ h1
  cases r with
  | code e a h => cases h2
  | val v h =>
    obtain ⟨e, rfl⟩ := isBoolF_some (show isBoolF v = true from h2)
    refine ⟨e, fact_of_val (n := n) ho hp rfl ?_⟩
    rw [h3]
    rfl
theorem word_all (t : ByteArray) : (prun Tryz.prog contOrc (X.anyF Tryz.prog contOrc) [] 200 (.call 111 [.string t] ⟨.nil, 7⟩) (.ask 6 (.ask 11 .go .go) .go)).all (resIs isBoolF) = true := by kernel_rfl
theorem word_needs (t : ByteArray) : (prun Tryz.prog contOrc (X.anyF Tryz.prog contOrc) [] 200 (.call 111 [.string t] ⟨.nil, 7⟩) (.ask 6 (.ask 11 .go .go) .go)).needs = [] := by kernel_rfl
theorem word_fact (t : ByteArray) : ∃ b : Bool, Fact Tryz.prog 111 [.string t] (.bool b) :=
  fact_of_treeB cont_facts (fun f args v h => by cases h) rfl (word_all t) (fun c hc => by rw [word_needs] at hc; cases hc)
end Go.Proofs.YtedfhallhpkkhaaGreatDoor.X
