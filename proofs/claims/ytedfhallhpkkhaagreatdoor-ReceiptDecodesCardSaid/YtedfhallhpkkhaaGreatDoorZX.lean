/- ReceiptDecodes, the tied card: for every string the law returns true, and its argument reads as before; condition: the six package-level variables that the row lists hold what the program's text lays, which the card ties to the text. -/
import Derived.Test.YtedfhallhpkkhaaGreatDoorZV
import Derived.Test.YtedfhallhpkkhaaGreatDoorZW
set_option linter.unusedVariables false
set_option linter.unusedSimpArgs false
namespace Go.Proofs.YtedfhallhpkkhaaGreatDoor
set_option maxRecDepth 100000
open Go.ChangeShapes Go.WideShapes Go.ChangeAt Go.WideMaps Go.WideElems Go.RowKit

theorem decodes_holds : Rows.ReceiptDecodesSaid :=
  OpenClaim.holds_of_wide 3 Tryz.f3 rfl rfl rfl rfl rfl rfl rfl ⟨rfl, rfl, rfl, rfl, rfl⟩ rfl rfl rfl rfl rfl (by kernel_rfl) Tryz.func3 decodes_closed
    (of_decide_eq_true (by kernel_rfl)) (by unfold Func.isWrapper; first | (rw [if_pos (by decide +kernel)]; kernel_rfl) | (rw [if_neg (by decide +kernel)]; exact ⟨rfl, rfl⟩))
    (fun os started H enc _ => decodes_lifted os started H enc)
theorem decodes_card : Rows.ReceiptDecodesCardSaid :=
  Claim7.holds_tied_plain_at .later [] [.data, .data, .data, .data, .sentinel, .sentinel] true (true, "a44d8f669c0aeaf146f0cf9989d40e5e8e1763248b9bff555971e566dff3aa7d") true
    decodes_holds (fun _ h => by cases h) (by kernel_rfl) (fun _ h => by cases h) receiptDecodes_row_tie rfl ⟨rfl, rfl⟩ (by kernel_rfl) rfl
    (fun f fn hf hfn => by
      obtain rfl : f = 3 := Option.some.inj ((show Tryz.prog.funcNamed "replevin/replevinlaw55.ReceiptDecodes" = some 3 by kernel_rfl).symm.trans hf) |>.symm
      obtain rfl : fn = Tryz.f3 := (Option.some.inj (Tryz.func3.symm.trans hfn)).symm
      exact ⟨by kernel_rfl, fun j t ht => by
        rw [Tryz.params3] at ht
        have hm : t ∈ [9] := by simpa using Array.mem_of_getElem? ht
        have hall : ([9].all fun u => !Tryz.prog.wantsStandIn u) = true := by kernel_rfl
        exact (show Tryz.prog.wantsStandIn t = false by simpa using List.all_eq_true.1 hall t hm)⟩)
    (by kernel_rfl)
#print axioms decodes_card
end Go.Proofs.YtedfhallhpkkhaaGreatDoor
