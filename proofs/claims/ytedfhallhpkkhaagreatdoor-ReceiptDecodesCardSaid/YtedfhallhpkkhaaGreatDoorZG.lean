/- receipt.Decode: what lies in memory. -/
import Derived.Test.YtedfhallhpkkhaaGreatDoorZE
import Derived.Lib.BufferWrite
import Derived.Laws.Rows
set_option linter.unusedVariables false
set_option linter.unusedSimpArgs false
namespace Go.Proofs.YtedfhallhpkkhaaGreatDoor.X
open Go Go.RowKit

theorem own_low {w : World} {base base' : Nat} {e : TypeId} {size : Nat} {v : Value} {n : Nat} {xs : List Value} (h : w.ownsRow base e size v n xs) (hb : base' ≤ base) : w.ownsRow base' e size v n xs := by
  refine ⟨h.1, ?_⟩
  rcases h.2 with hn | ⟨g, cap, cur, h1, h2, h3⟩
  · exact .inl hn
  · exact .inr ⟨g, cap, cur, h1, Nat.le_trans hb h2, h3⟩
/-- It lies in a world where its block is as it was. -/
theorem own_same {w w' : World} {base : Nat} {e : TypeId} {size : Nat} {v : Value} {n : Nat} {xs : List Value} (h : w.ownsRow base e size v n xs) (hk : ∀ j, v.ownBlock = some j → w'.heap[j]? = w.heap[j]?) : w'.ownsRow base e size v n xs := by
  refine ⟨h.1, ?_⟩
  rcases h.2 with hn | ⟨g, cap, cur, rfl, h2, h3, h4⟩
  · exact .inl hn
  · exact .inr ⟨g, cap, cur, rfl, h2, (hk g rfl).trans h3, h4⟩
def digCells (p : List (List UInt8)) : List Value := p.flatMap cellsOfBytes
/-- The path p lies under the slice v. -/
def PathAt (w : World) (base : Nat) (v : Value) (p : List (List UInt8)) : Prop := w.ownsRow base 50 32 v p.length (digCells p) ∧ ∀ d ∈ p, d.length = 32
/-- An action's cells; n is the receipt's length. -/
def acRow (n : Nat) (l : List (AcP × Value)) : List Value := l.flatMap fun x => [.int .i64 x.1.idx, .int .i64 n, str x.1.txt, x.2]
def ActsAt (w : World) (base n : Nat) (v : Value) (l : List (AcP × Value)) : Prop := w.ownsRow base 61 4 v l.length (acRow n l) ∧ ∀ x ∈ l, PathAt w base x.2 x.1.path
theorem PathAt.same {w w' : World} {base : Nat} {v : Value} {p : List (List UInt8)} (h : PathAt w base v p) (hk : ∀ (j : Nat) (cs : Array Value) (fz : Nat × Nat), w.heap[j]? = some (.cells cs 50 fz) → w'.heap[j]? = w.heap[j]?) : PathAt w' base v p :=
  ⟨own_same h.1 fun j hj => by obtain ⟨cs, h1⟩ := own_type h.1 hj; exact hk j cs _ h1, h.2⟩
theorem ActsAt.same {w w' : World} {base n : Nat} {v : Value} {l : List (AcP × Value)} (h : ActsAt w base n v l) (hk : ∀ (j : Nat) (cs : Array Value) (t : TypeId) (fz : Nat × Nat), w.heap[j]? = some (.cells cs t fz) → t = 50 ∨ t = 61 → w'.heap[j]? = w.heap[j]?) : ActsAt w' base n v l :=
  ⟨own_same h.1 fun j hj => by obtain ⟨cs, h1⟩ := own_type h.1 hj; exact hk j cs _ _ h1 (.inr rfl), fun x hx => (h.2 x hx).same fun j cs fz hj => hk j cs 50 fz hj (.inl rfl)⟩
theorem heap_cells8 {w : World} {b : Nat} {v0 v1 v2 v3 v4 v5 v6 v7 : Value} {t : TypeId} {fz : Nat × Nat} (h : w.heap[b]? = some (.cells #[v0, v1, v2, v3, v4, v5, v6, v7] t fz)) :
    w.cell? ⟨b, 0, none⟩ = some v0 ∧ w.cell? ⟨b, 1, none⟩ = some v1 ∧ w.cell? ⟨b, 2, none⟩ = some v2 ∧ w.cell? ⟨b, 3, none⟩ = some v3 ∧ w.cell? ⟨b, 4, none⟩ = some v4 ∧ w.cell? ⟨b, 5, none⟩ = some v5 ∧ w.cell? ⟨b, 6, none⟩ = some v6 ∧ w.cell? ⟨b, 7, none⟩ = some v7 :=
  ⟨cell_of_heap h, cell_of_heap h, cell_of_heap h, cell_of_heap h, cell_of_heap h, cell_of_heap h, cell_of_heap h, cell_of_heap h⟩
theorem heap_frozen8 {w : World} {b : Nat} {cs : Array Value} {t : TypeId} (h : w.heap[b]? = some (.cells cs t (0, 0))) :
    w.frozen? ⟨b, 0, none⟩ = false ∧ w.frozen? ⟨b, 1, none⟩ = false ∧ w.frozen? ⟨b, 2, none⟩ = false ∧ w.frozen? ⟨b, 3, none⟩ = false ∧ w.frozen? ⟨b, 4, none⟩ = false ∧ w.frozen? ⟨b, 5, none⟩ = false ∧ w.frozen? ⟨b, 6, none⟩ = false ∧ w.frozen? ⟨b, 7, none⟩ = false :=
  ⟨frozen_of_heap h, frozen_of_heap h, frozen_of_heap h, frozen_of_heap h, frozen_of_heap h, frozen_of_heap h, frozen_of_heap h, frozen_of_heap h⟩
theorem heap_setj {w : World} {b j : Nat} {cs : Array Value} {v : Value} {t : TypeId} (h : w.heap[b]? = some (.cells cs t (0, 0))) : (w.setCell ⟨b, j, none⟩ v).heap[b]? = some (.cells (cs.setIfInBounds j v) t (0, 0)) := by
  unfold World.setCell
  simp only [Array.getElem?_modify, if_true, h]
  rfl
theorem heap_setcells8 {w : World} {b : Nat} {x0 x1 x2 x3 x4 x5 x6 x7 v0 v1 v2 v3 v4 v5 v6 v7 : Value} {t : TypeId} (h : w.heap[b]? = some (.cells #[x0, x1, x2, x3, x4, x5, x6, x7] t (0, 0))) :
    ((((((((w.setCell ⟨b, 0, none⟩ v0).setCell ⟨b, 1, none⟩ v1).setCell ⟨b, 2, none⟩ v2).setCell ⟨b, 3, none⟩ v3).setCell ⟨b, 4, none⟩ v4).setCell ⟨b, 5, none⟩ v5).setCell ⟨b, 6, none⟩ v6).setCell ⟨b, 7, none⟩ v7).heap[b]? = some (.cells #[v0, v1, v2, v3, v4, v5, v6, v7] t (0, 0)) := by
  rw [heap_setj (j := 7) (v := v7) (heap_setj (j := 6) (v := v6) (heap_setj (j := 5) (v := v5) (heap_setj (j := 4) (v := v4) (heap_setj (j := 3) (v := v3) (heap_setj (j := 2) (v := v2) (heap_setj (j := 1) (v := v1) (heap_setj (j := 0) (v := v0) (h))))))))]
  simp
theorem heap_setother8 {w : World} {b j : Nat} {v0 v1 v2 v3 v4 v5 v6 v7 : Value} (h : j ≠ b) : ((((((((w.setCell ⟨b, 0, none⟩ v0).setCell ⟨b, 1, none⟩ v1).setCell ⟨b, 2, none⟩ v2).setCell ⟨b, 3, none⟩ v3).setCell ⟨b, 4, none⟩ v4).setCell ⟨b, 5, none⟩ v5).setCell ⟨b, 6, none⟩ v6).setCell ⟨b, 7, none⟩ v7).heap[j]? = w.heap[j]? := by
  rw [Below.heap_setCell _ _ _ _ h, Below.heap_setCell _ _ _ _ h, Below.heap_setCell _ _ _ _ h, Below.heap_setCell _ _ _ _ h, Below.heap_setCell _ _ _ _ h, Below.heap_setCell _ _ _ _ h, Below.heap_setCell _ _ _ _ h, Below.heap_setCell _ _ _ _ h]
theorem Below.set8 {B : Nat} {a w : World} {b : Nat} {v0 v1 v2 v3 v4 v5 v6 v7 : Value} (h : Below B a w) (hb : B ≤ b) : Below B a ((((((((w.setCell ⟨b, 0, none⟩ v0).setCell ⟨b, 1, none⟩ v1).setCell ⟨b, 2, none⟩ v2).setCell ⟨b, 3, none⟩ v3).setCell ⟨b, 4, none⟩ v4).setCell ⟨b, 5, none⟩ v5).setCell ⟨b, 6, none⟩ v6).setCell ⟨b, 7, none⟩ v7) :=
  ((((((((h.setCell (p := ⟨b, 0, none⟩) hb _).setCell (p := ⟨b, 1, none⟩) hb _).setCell (p := ⟨b, 2, none⟩) hb _).setCell (p := ⟨b, 3, none⟩) hb _).setCell (p := ⟨b, 4, none⟩) hb _).setCell (p := ⟨b, 5, none⟩) hb _).setCell (p := ⟨b, 6, none⟩) hb _).setCell (p := ⟨b, 7, none⟩) hb _)
/-- The place of receipt.Decode ahead of its loop: the result's box N, the name's box b5, the reader. -/
structure Hd (w0 W : World) (N b5 R B c : Nat) (s : List UInt8) (i : Nat) (f : Int) (z : Array Value) (nm : Array Value) : Prop where
  hN : W.heap[N]? = some (.cells z 29 (0, 0))
  h5 : W.heap[b5]? = some (.cells nm 24 (0, 0))
  rd : Rd W R B c s i f
  bel : Below w0.heap.size w0 W
  rlow : w0.heap.size ≤ R
section
variable {w0 W w' : World} {N b5 R B c : Nat} {s : List UInt8} {i : Nat} {f : Int} {z nm : Array Value}
theorem Hd.alloc (h : Hd w0 W N b5 R B c s i f z nm) (o : Obj) : Hd w0 (W.alloc o) N b5 R B c s i f z nm :=
  ⟨(Below.heap_alloc _ _ _ (Array.getElem?_eq_some_iff.1 h.hN).1).trans h.hN, (Below.heap_alloc _ _ _ (Array.getElem?_eq_some_iff.1 h.h5).1).trans h.h5, h.rd.alloc o, h.bel.alloc h.bel.size _, h.rlow⟩
theorem Hd.drew (h : Hd w0 W N b5 R B c s i f z nm) : Hd w0 W.drew N b5 R B c s i f z nm := ⟨h.hN, h.h5, h.rd.kept rfl rfl, h.bel.drew, h.rlow⟩
theorem Hd.num {most : Int} {n j : Nat} {g : Int} (h : Hd w0 W N b5 R B c s i f z nm) (hr : Hid (rdNum s i f most = (n, j, g))) :
    Calls Tryz.prog 35 #[.pointer (some ⟨R, 0, none⟩), .int .i64 most] W fun e w' => e = .returned (.int .i64 n) ∧ Hd w0 w' N b5 R B c s j g z nm ∧ W.grownBy w' (some R) ∧ ∀ (b : Nat) (cs : Array Value) (fz : Nat × Nat), W.heap[b]? = some (.cells cs 29 fz) → w'.heap[b]? = some (.cells cs 29 fz) := by
  have := number_any R B c i f most s W h.rd
  rw [hr.out] at this
  exact this.mono fun e w' ⟨h1, h2, h3⟩ => ⟨h1, ⟨h.rd.keep h3 h.hN (by decide), h.rd.keep h3 h.h5 (by decide), h2, h.bel.grown h3 h.bel.size (fun k e => by cases e; exact h.rlow), h.rlow⟩, h3, fun b cs fz hb => h.rd.keep h3 hb (by decide)⟩
end
end Go.Proofs.YtedfhallhpkkhaaGreatDoor.X
