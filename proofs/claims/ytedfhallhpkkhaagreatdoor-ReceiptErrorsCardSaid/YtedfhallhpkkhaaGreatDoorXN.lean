/- The closed facts of the row of ReceiptErrors. -/
import Derived.Test.YtedfhallhpkkhaaGreatDoorRows
import Derived.ProofKit
import Derived.KernelRfl
set_option linter.unusedVariables false
set_option linter.unusedSimpArgs false
namespace Go.Proofs.YtedfhallhpkkhaaGreatDoor
open Go
set_option maxRecDepth 100000
theorem f_inplace : (Rows.receiptErrorsRow.inPlace == Tryz.pinned.checked.prog.inPlace 5) = true := by kernel_rfl
theorem f_unfollowed : (Rows.receiptErrorsRow.unfollowed == Tryz.pinned.checked.prog.unfollowed 5) = true := by kernel_rfl
theorem f_recurses : (Rows.receiptErrorsRow.recurses == Tryz.pinned.checked.prog.recurses 5) = true := by kernel_rfl
theorem f_named : (Rows.receiptErrorsRow.named == Tryz.pinned.checked.prog.varsNamed 5) = true := by kernel_rfl
theorem errors_closed : joinedFacts Tryz.pinned.checked.prog 5 Tryz.f5 Rows.receiptErrorsSpec Rows.receiptErrorsRow = true := by
  unfold joinedFacts
  rw [f_inplace, f_unfollowed, f_recurses, f_named]
  kernel_rfl
end Go.Proofs.YtedfhallhpkkhaaGreatDoor
