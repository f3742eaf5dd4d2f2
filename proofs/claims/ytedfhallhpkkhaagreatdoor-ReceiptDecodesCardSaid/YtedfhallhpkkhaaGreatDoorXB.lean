/- object.uses, by a local run. -/
import Derived.Test.YtedfhallhpkkhaaGreatDoorX6
set_option linter.unusedVariables false
set_option linter.unusedSimpArgs false
namespace Go.Proofs.YtedfhallhpkkhaaGreatDoor.X
open Go Go.RowKit
def usesVal : Value := .agg ⟨[.string ⟨⟨[]⟩⟩, .bool false, .bool false, .bool false, .int .i64 (0),
  .string ⟨⟨[112, 114, 111, 99, 101, 115, 115]⟩⟩, .bool true, .bool false, .bool false, .int .i64 (-1),
  .string ⟨⟨[114, 101, 103, 105, 115, 116, 101, 114, 115]⟩⟩, .bool true, .bool false, .bool false, .int .i64 (-1),
  .string ⟨⟨[112, 97, 103, 101]⟩⟩, .bool true, .bool false, .bool false, .int .i64 (63),
  .string ⟨⟨[116, 97, 98, 108, 101]⟩⟩, .bool true, .bool false, .bool false, .int .i64 (-1),
  .string ⟨⟨[99, 111, 117, 110, 116, 101, 114]⟩⟩, .bool true, .bool false, .bool false, .int .i64 (-1),
  .string ⟨⟨[112, 101, 110, 100, 105, 110, 103]⟩⟩, .bool true, .bool false, .bool false, .int .i64 (-1),
  .string ⟨⟨[110, 111, 100, 101]⟩⟩, .bool true, .bool true, .bool false, .int .i64 (-1),
  .string ⟨⟨[98, 108, 111, 99, 107]⟩⟩, .bool true, .bool true, .bool false, .int .i64 (63),
  .string ⟨⟨[101, 110, 116, 114, 121]⟩⟩, .bool true, .bool true, .bool true, .int .i64 (-1),
  .string ⟨⟨[108, 105, 115, 116, 105, 110, 103]⟩⟩, .bool true, .bool true, .bool false, .int .i64 (-1),
  .string ⟨⟨[112, 105, 112, 101]⟩⟩, .bool true, .bool true, .bool false, .int .i64 (-1),
  .string ⟨⟨[108, 111, 99, 107]⟩⟩, .bool true, .bool true, .bool false, .int .i64 (-1),
  .string ⟨⟨[116, 101, 114, 109, 105, 110, 97, 108]⟩⟩, .bool false, .bool true, .bool false, .int .i64 (-1),
  .string ⟨⟨[97, 99, 99, 111, 117, 110, 116]⟩⟩, .bool false, .bool false, .bool true, .int .i64 (-1),
  .string ⟨⟨[99, 108, 111, 99, 107]⟩⟩, .bool false, .bool false, .bool false, .int .i64 (-1),
  .string ⟨⟨[112, 111, 114, 116]⟩⟩, .bool false, .bool true, .bool false, .int .i64 (-1),
  .string ⟨⟨[98, 111, 120]⟩⟩, .bool false, .bool false, .bool true, .int .i64 (-1),
  .string ⟨⟨[111, 117, 116]⟩⟩, .bool true, .bool true, .bool false, .int .i64 (1073741824),
  .string ⟨⟨[115, 104, 101, 108, 108]⟩⟩, .bool true, .bool false, .bool false, .int .i64 (-1),
  .string ⟨⟨[101, 112, 111, 99, 104]⟩⟩, .bool false, .bool false, .bool false, .int .i64 (-1)]⟩
theorem uses_fact : Fact Tryz.prog 95 [] usesVal := fact_of_run (n := 100000) (noFacts _) (by rfl) (by rfl) (by kernel_rfl)
noncomputable def usesOrc : Orc := withTab 95 [([], usesVal)] (fun _ => none)
theorem uses_facts : OrcFacts Tryz.prog usesOrc := withTab_facts (fun p hp => by
  simp only [List.mem_cons, List.not_mem_nil, or_false] at hp
  subst hp
  exact uses_fact) (noFacts _)
end Go.Proofs.YtedfhallhpkkhaaGreatDoor.X
