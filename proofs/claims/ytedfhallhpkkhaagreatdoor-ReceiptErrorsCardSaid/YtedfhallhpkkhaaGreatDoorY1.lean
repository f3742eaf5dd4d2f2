/- ReceiptErrors, the row: for every place, every number and every digest the law returns true, and its arguments read as before; condition: the six package-level variables that the row lists hold what the program's text lays. -/
import Derived.Test.YtedfhallhpkkhaaGreatDoorXM
import Derived.Test.YtedfhallhpkkhaaGreatDoorXN
set_option linter.unusedVariables false
set_option linter.unusedSimpArgs false
namespace Go.Proofs.YtedfhallhpkkhaaGreatDoor
set_option maxRecDepth 100000
open Go.ChangeShapes Go.WideShapes Go.ChangeAt Go.WideMaps Go.WideElems Go.RowKit

theorem errors_holds : Rows.ReceiptErrorsSaid :=
  OpenClaim.holds_of_wide 5 Tryz.f5 rfl rfl rfl rfl rfl rfl rfl ⟨rfl, rfl, rfl, rfl, rfl⟩ rfl rfl rfl rfl rfl (by kernel_rfl) Tryz.func5 errors_closed
    (of_decide_eq_true (by kernel_rfl)) (by unfold Func.isWrapper; first | (rw [if_pos (by decide +kernel)]; kernel_rfl) | (rw [if_neg (by decide +kernel)]; exact ⟨rfl, rfl⟩))
    (fun os started H enc _ => errors_lifted os started H enc)
end Go.Proofs.YtedfhallhpkkhaaGreatDoor
