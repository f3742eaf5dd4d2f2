/- object.uses()[k]: what a kind uses; blocks of five cells. -/
import Derived.Test.YtedfhallhpkkhaaGreatDoorZB
import Derived.Test.YtedfhallhpkkhaaGreatDoorZA
import Derived.Test.YtedfhallhpkkhaaGreatDoorXF
set_option linter.unusedVariables false
set_option linter.unusedSimpArgs false
namespace Go.Proofs.YtedfhallhpkkhaaGreatDoor.X
open Go Go.RowKit
def nmV (x : NmP) : Value := .agg #[.int .i64 x.k, str x.o, .int .i64 x.n, .int .i64 x.i, str x.t]
def useV (k : Nat) (word : ByteArray) : Value := .agg #[.string word, .bool (useO k), .bool (useN k), .bool (useT k), .int .i64 (useM k)]
def useW (k : Nat) : ByteArray := match usesVal with
  | .agg cs => match cs.getD (5 * k) undef with
    | .string s => s
    | _ => ⟨#[]⟩
  | _ => ⟨#[]⟩
theorem use_idx (k : Nat) (hk : k ≤ 20) (W : World) : (Instr.index 192 usesVal (.int .i64 k)).run Tryz.prog W = .ok (useV k (useW k)) W := by
  have hall : k = 0 ∨ k = 1 ∨ k = 2 ∨ k = 3 ∨ k = 4 ∨ k = 5 ∨ k = 6 ∨ k = 7 ∨ k = 8 ∨ k = 9 ∨ k = 10 ∨ k = 11 ∨ k = 12 ∨ k = 13 ∨ k = 14 ∨ k = 15 ∨ k = 16 ∨ k = 17 ∨ k = 18 ∨ k = 19 ∨ k = 20 := by omega
  have hu := Tryz.underlying192
  rcases hall with rfl | rfl | rfl | rfl | rfl | rfl | rfl | rfl | rfl | rfl | rfl | rfl | rfl | rfl | rfl | rfl | rfl | rfl | rfl | rfl | rfl
  all_goals (clear hk hu; show _ = _; kernel_rfl)
theorem heap_frozen5 {w : World} {b : Nat} {cs : Array Value} {t : TypeId} (h : w.heap[b]? = some (.cells cs t (0, 0))) :
    w.frozen? ⟨b, 0, none⟩ = false ∧ w.frozen? ⟨b, 1, none⟩ = false ∧ w.frozen? ⟨b, 2, none⟩ = false ∧ w.frozen? ⟨b, 3, none⟩ = false ∧ w.frozen? ⟨b, 4, none⟩ = false :=
  ⟨frozen_of_heap h, frozen_of_heap h, frozen_of_heap h, frozen_of_heap h, frozen_of_heap h⟩
theorem heap_cells5 {w : World} {b : Nat} {v0 v1 v2 v3 v4 : Value} {t : TypeId} {fz : Nat × Nat} (h : w.heap[b]? = some (.cells #[v0, v1, v2, v3, v4] t fz)) :
    w.cell? ⟨b, 0, none⟩ = some v0 ∧ w.cell? ⟨b, 1, none⟩ = some v1 ∧ w.cell? ⟨b, 2, none⟩ = some v2 ∧ w.cell? ⟨b, 3, none⟩ = some v3 ∧ w.cell? ⟨b, 4, none⟩ = some v4 :=
  ⟨cell_of_heap h, cell_of_heap h, cell_of_heap h, cell_of_heap h, cell_of_heap h⟩
theorem heap_setcells5 {w : World} {b : Nat} {x0 x1 x2 x3 x4 v0 v1 v2 v3 v4 : Value} {t : TypeId} (h : w.heap[b]? = some (.cells #[x0, x1, x2, x3, x4] t (0, 0))) :
    (((((w.setCell ⟨b, 0, none⟩ v0).setCell ⟨b, 1, none⟩ v1).setCell ⟨b, 2, none⟩ v2).setCell ⟨b, 3, none⟩ v3).setCell ⟨b, 4, none⟩ v4).heap[b]? = some (.cells #[v0, v1, v2, v3, v4] t (0, 0)) := by
  unfold World.setCell
  simp only [Array.getElem?_modify, if_true, h]
  rfl
theorem conv_bytes (l : List UInt8) (g c : Nat) (W : World) (h : ∀ j, j < l.length → W.cell? ⟨g, j, none⟩ = some (.int .u8 (l[j]?.getD 0).toNat)) :
    (convert 63 9 (.slice (some ⟨g, 0, none⟩) l.length c)).run Tryz.prog W = .ok (str l) W :=
  run_convert_bytes_back (P := Tryz.prog) W 63 9 5 ⟨g, 0, none⟩ c l Tryz.underlying63 Tryz.underlying5 Tryz.underlying9 (fun j hj => by
    rw [Addr.add_lit, Nat.zero_add, h j hj, List.getElem?_eq_getElem hj]
    rfl)
theorem heap_setother5 {w : World} {b j : Nat} {v0 v1 v2 v3 v4 : Value} (h : j ≠ b) :
    (((((w.setCell ⟨b, 0, none⟩ v0).setCell ⟨b, 1, none⟩ v1).setCell ⟨b, 2, none⟩ v2).setCell ⟨b, 3, none⟩ v3).setCell ⟨b, 4, none⟩ v4).heap[j]? = w.heap[j]? := by
  rw [Below.heap_setCell _ _ _ _ h, Below.heap_setCell _ _ _ _ h, Below.heap_setCell _ _ _ _ h, Below.heap_setCell _ _ _ _ h, Below.heap_setCell _ _ _ _ h]
theorem Below.set5 {B : Nat} {a w : World} {b : Nat} {v0 v1 v2 v3 v4 : Value} (h : Below B a w) (hb : B ≤ b) :
    Below B a (((((w.setCell ⟨b, 0, none⟩ v0).setCell ⟨b, 1, none⟩ v1).setCell ⟨b, 2, none⟩ v2).setCell ⟨b, 3, none⟩ v3).setCell ⟨b, 4, none⟩ v4) :=
  ((((h.setCell (p := ⟨b, 0, none⟩) hb _).setCell (p := ⟨b, 1, none⟩) hb _).setCell (p := ⟨b, 2, none⟩) hb _).setCell (p := ⟨b, 3, none⟩) hb _).setCell (p := ⟨b, 4, none⟩) hb _
/-- The shapes of kinds: what a kind uses. -/
def Shp (b1 b2 b3 : Bool) (m : Int) : Prop :=
  (b1 = true ∧ b2 = false ∧ b3 = false ∧ decide (0 ≤ m) = false) ∨ (b1 = true ∧ b2 = false ∧ b3 = false ∧ decide (0 ≤ m) = true) ∨ (b1 = true ∧ b2 = true ∧ b3 = false ∧ decide (0 ≤ m) = false) ∨ (b1 = true ∧ b2 = true ∧ b3 = false ∧ decide (0 ≤ m) = true) ∨ (b1 = true ∧ b2 = true ∧ b3 = true ∧ decide (0 ≤ m) = false) ∨ (b1 = false ∧ b2 = true ∧ b3 = false ∧ decide (0 ≤ m) = false) ∨ (b1 = false ∧ b2 = false ∧ b3 = true ∧ decide (0 ≤ m) = false) ∨ (b1 = false ∧ b2 = false ∧ b3 = false ∧ decide (0 ≤ m) = false) ∨ (b1 = false ∧ b2 = false ∧ b3 = false ∧ decide (0 ≤ m) = true)
theorem use_shp (k : Nat) (hk : k ≤ 20) : Shp (useO k) (useN k) (useT k) (useM k) := by
  have key : ∀ j : Fin 21, Shp (useO j) (useN j) (useT j) (useM j) := by unfold Shp; decide +kernel
  exact key ⟨k, by omega⟩
end Go.Proofs.YtedfhallhpkkhaaGreatDoor.X
