/- ReceiptErrors, the tied card: for every place, every number and every digest the law returns true, and its arguments read as before; condition: the six package-level variables that the row lists hold what the program's text lays, which the card ties to the text. -/
import Derived.Test.YtedfhallhpkkhaaGreatDoorY1
set_option linter.unusedVariables false
set_option linter.unusedSimpArgs false
namespace Go.Proofs.YtedfhallhpkkhaaGreatDoor
set_option maxRecDepth 100000
theorem errors_card : Rows.ReceiptErrorsCardSaid :=
  Claim7.holds_tied_plain_at .later [] [.data, .data, .data, .data, .sentinel, .sentinel] true (true, "a44d8f669c0aeaf146f0cf9989d40e5e8e1763248b9bff555971e566dff3aa7d") true
    errors_holds (fun _ h => by cases h) (by kernel_rfl) (fun _ h => by cases h) receiptErrors_row_tie rfl ⟨rfl, rfl⟩ (by kernel_rfl) rfl
    (fun f fn hf hfn => by
      obtain rfl : f = 5 := Option.some.inj ((show Tryz.prog.funcNamed "replevin/replevinlaw55.ReceiptErrors" = some 5 by kernel_rfl).symm.trans hf) |>.symm
      obtain rfl : fn = Tryz.f5 := (Option.some.inj (Tryz.func5.symm.trans hfn)).symm
      exact ⟨by kernel_rfl, fun j t ht => by
        rw [Tryz.params5] at ht
        have hm : t ∈ [26, 3, 50] := by simpa using Array.mem_of_getElem? ht
        have hall : ([26, 3, 50].all fun u => !Tryz.prog.wantsStandIn u) = true := by kernel_rfl
        exact (show Tryz.prog.wantsStandIn t = false by simpa using List.all_eq_true.1 hall t hm)⟩)
    (by kernel_rfl)
#print axioms errors_card
end Go.Proofs.YtedfhallhpkkhaaGreatDoor
