/- ReceiptDecodes: for every string the law returns true, and its argument reads as before; condition: the six package-level variables that the row lists hold what the program's text lays, which the card ties to the text. -/
import Derived.Test.YtedfhallhpkkhaaGreatDoorRows
import Derived.Test.YtedfhallhpkkhaaGreatDoorTie
import Derived.Test.YtedfhallhpkkhaaGreatDoorCards
import Derived.Test.YtedfhallhpkkhaaGreatDoorZU
import Derived.ProofKit
import Derived.LaidMore
import Derived.OpenShut
import Derived.Stop.Joined
import Derived.SevenTiedAt
import Derived.LaidSub
import Derived.Lib.LaidTab
import Derived.ChangeMaps5
set_option linter.unusedVariables false
set_option linter.unusedSimpArgs false
namespace Go.Proofs.YtedfhallhpkkhaaGreatDoor
set_option maxRecDepth 100000
open Go.ChangeShapes Go.WideShapes Go.ChangeAt Go.WideMaps Go.WideElems Go.RowKit

theorem own : ownKnob Tryz.prog.godebug = none := by kernel_rfl
theorem laidOut : laidOutB Tryz.prog = true := by kernel_rfl
abbrev laidAll : List (String × DataW Unit) := Rows.receiptDecodesRow.laid

/-! ### What the condition gives: the constants of SHA-256 -/
def kz : List Int := X.gconst.map fun v => RowKit.intOf v
theorem gConst : Tryz.prog.globalNamed "replevin/sha256.constants" = some 0 := by kernel_rfl
theorem laid_gok {W : World} (h : laidMetH Tryz.prog laidAll W) : X.GOk W.heap := by
  have h1 := laidMetH.filter (fun x => x.1 == "replevin/sha256.constants") h
  have h2 : laidMetH Tryz.prog [("replevin/sha256.constants", Lib.tabData .u32 kz)] W := h1
  rw [MakeChecks.laidMetH_plain _ _ _ (by kernel_rfl)] at h2
  have h3 := Lib.tabIs_of_head (t := 331) (e := 182) (n := 64) gConst (by kernel_rfl) (by kernel_rfl) (by kernel_rfl) (by kernel_rfl) (by kernel_rfl) h2
  unfold Lib.TabIs World.var? at h3
  rw [gConst] at h3
  simp only [Option.bind_some] at h3
  split at h3
  case h_2 => cases h3
  rename_i cs t f hc
  simp only [Option.some.injEq] at h3
  refine ⟨cs, t, f, hc, fun k v hk => ?_⟩
  rw [h3]
  have : (kz.map fun z => Value.int .u32 z) = X.gconst := by rfl
  rw [this]
  simpa using hk

theorem decodes_lifted (os : Os) (started : os.Started) (H : Type) (enc : TypeId × Value → H) :
    ReturnsInHanded {} Tryz.checked os 3 .any (fun w args => (Rows.receiptDecodesSpec.pre enc Tryz.prog Tryz.f3 [] false w args ∧ laidMetH Tryz.prog laidAll w) ∧ sizedMet enc Tryz.prog Tryz.f3 (OpenSpec.ofChange Rows.receiptDecodesSpec) false w args)
      (Rows.receiptDecodesSpec.post enc Tryz.prog Tryz.f3 false true false false) := by
  refine returnsInHanded_of_change_and (C := Tryz.checked) (X := fun w _ => laidMetH Tryz.prog laidAll w) (fun _ _ _ hh h => h.of_heap hh) own started (by kernel_rfl) Tryz.func3
    (ChangeSpec.witness_shaped (enc := enc) (C := Tryz.checked) (os := os) (X := fun w _ => laidMetH Tryz.prog laidAll w) false (World.doorLaid Tryz.prog 67 os) #[.string ⟨#[]⟩] 8 rfl (World.shaped_of_RefB (by kernel_rfl) (by kernel_rfl)) (by kernel_rfl) (by kernel_rfl) (by kernel_rfl)
      (laidMetH_of_parts3 (fuel := 8) (laidMet_of_run' 8 (by kernel_rfl) (by kernel_rfl)) (by kernel_rfl) (by kernel_rfl))) ?_
  intro W base args ds gs before hval0 hW _ _ hL _
  have hval : ∀ (j : Nat) t v, Tryz.f3.params[j]? = some t → args[j]? = some v → Value.okWide Tryz.prog W .any base t v := hval0
  have hlt := hW.lt
  have hW' := hW
  obtain ⟨p, q, hA0, hV, rfl, hfz, hnd⟩ := hW
  have hA : DataW.TrodAll enc Tryz.prog W 0 (fun _ => true) true Tryz.f3.params.toList args.toList ds p := hA0
  rw [Tryz.params3] at hA hval
  obtain ⟨v0, d0, rfl, rfl, h0⟩ := trodAll_one hA
  obtain ⟨rfl, rfl⟩ := trodVars_none hV
  obtain ⟨s, rfl, rfl, rfl, hs⟩ := Go.ChangeMaps.open_string Tryz.underlying9 (hval 0 9 v0 rfl rfl) h0
  have hml : maxLen ≤ 9223372036854775807 := by decide
  refine (X.decodes_any s (by omega) W (laid_gok hL)).mono fun e W' ⟨he, hB⟩ => ?_
  subst he
  refine ⟨_, rfl, _, _, _, [], [], [], hW', trodAll_mk1 (shut_bool Tryz.underlying4 _), ?_, rfl, hB.frame _, fun h => by cases h⟩
  exact trodAll_mk1 (Below.trod laidOut (by kernel_rfl) (of_decide_eq_true (by kernel_rfl)) h0 hB fun x hx => hlt x (by simp [hx]))
end Go.Proofs.YtedfhallhpkkhaaGreatDoor
