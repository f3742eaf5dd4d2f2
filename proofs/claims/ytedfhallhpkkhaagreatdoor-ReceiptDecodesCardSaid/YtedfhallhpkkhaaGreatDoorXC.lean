/- The example of law 55 holds: by a local run. -/
import Derived.Test.YtedfhallhpkkhaaGreatDoorXA
import Derived.Test.YtedfhallhpkkhaaGreatDoorXB
set_option linter.unusedVariables false
set_option linter.unusedSimpArgs false
namespace Go.Proofs.YtedfhallhpkkhaaGreatDoor.X
open Go Go.RowKit
theorem known_facts : OrcFacts Tryz.prog (withTab 31 sumTab usesOrc) := withTab_facts sum_tab uses_facts
theorem known_fact : Fact Tryz.prog 11 [] (.bool true) := fact_of_run (n := 100000) known_facts (by rfl) (by rfl) (by kernel_rfl)
end Go.Proofs.YtedfhallhpkkhaaGreatDoor.X
