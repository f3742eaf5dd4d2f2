/- The closed facts of the row of ReceiptDecodes. -/
import Derived.Test.YtedfhallhpkkhaaGreatDoorRows
import Derived.ProofKit
import Derived.KernelRfl
set_option linter.unusedVariables false
set_option linter.unusedSimpArgs false
namespace Go.Proofs.YtedfhallhpkkhaaGreatDoor
open Go
set_option maxRecDepth 100000
theorem f_inplace : (Rows.receiptDecodesRow.inPlace == Tryz.pinned.checked.prog.inPlace 3) = true := by kernel_rfl
theorem f_unfollowed : (Rows.receiptDecodesRow.unfollowed == Tryz.pinned.checked.prog.unfollowed 3) = true := by kernel_rfl
theorem f_recurses : (Rows.receiptDecodesRow.recurses == Tryz.pinned.checked.prog.recurses 3) = true := by kernel_rfl
theorem f_named : (Rows.receiptDecodesRow.named == Tryz.pinned.checked.prog.varsNamed 3) = true := by kernel_rfl
theorem decodes_closed : joinedFacts Tryz.pinned.checked.prog 3 Tryz.f3 Rows.receiptDecodesSpec Rows.receiptDecodesRow = true := by
  unfold joinedFacts
  rw [f_inplace, f_unfollowed, f_recurses, f_named]
  kernel_rfl
end Go.Proofs.YtedfhallhpkkhaaGreatDoor
