/- lineage.Valid and object.Name.Check: each gives one answer for every text, every name. -/
import Derived.Test.YtedfhallhpkkhaaGreatDoorXI
set_option linter.unusedVariables false
set_option linter.unusedSimpArgs false
namespace Go.Proofs.YtedfhallhpkkhaaGreatDoor.X
open Go Go.Shelf Go.RowKit Go.Lib

theorem valid_fact (s : ByteArray) (hs : s.size ≤ 1000000) : Fact Tryz.prog 109 [.string s] (.bool ((full s).all (· == 0))) := fun w _ => by
  have hC := callsIn_wide.1 (parse_in s hs w)
  show Calls Tryz.prog 109 #[.string s] w _
  go_enter Tryz.func109, Tryz.ntmps109
  go_wp2_with (go_at_call 163; refine hC.mono ?_; rintro e w' ⟨v, a, x, rfl, hx, hb⟩)
  go_ret
  refine ⟨?_, hb⟩
  congr 2
  by_cases h : x = 0
  · rw [hx.1 h, h]
    rfl
  · have : (full s).all (· == 0) = false := by
      rw [← Bool.not_eq_true]
      exact fun hh => h (hx.2 hh)
    rw [this]
    simpa using h
theorem check_any (k n i : Int) (o t : ByteArray) (ho : o.size ≤ 1000000) : ∃ e : Int, (e = 0 ∨ e = 1 ∨ e = 2 ∨ e = 11 ∨ e = 12) ∧ Fact Tryz.prog 43 [nameV (.int .i64 k) o n i t] (.int .i64 e) := by
  obtain ⟨b, hb⟩ := word_fact t
  exact check_fact (valid_fact o ho) hb
end Go.Proofs.YtedfhallhpkkhaaGreatDoor.X
