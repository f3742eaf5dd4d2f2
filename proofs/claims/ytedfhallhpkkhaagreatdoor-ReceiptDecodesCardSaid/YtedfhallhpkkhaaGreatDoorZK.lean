/- receipt.Decode: far from what is new all is as it was; the pieces of its code. -/
import Derived.Test.YtedfhallhpkkhaaGreatDoorZI
set_option linter.unusedVariables false
set_option linter.unusedSimpArgs false
namespace Go.Proofs.YtedfhallhpkkhaaGreatDoor.X
open Go Go.RowKit

/-- The body of receipt.Decode's outer loop, ahead of its counting; its pieces. -/
noncomputable def rnd10 : Code := match Tryz.f10.body with
  | some (Code.seq _ (Code.seq _ (Code.seq _ (Code.seq _ (Code.seq (Code.seq _ (Code.block _ (Code.loop (Code.seq _ (Code.seq _ (Code.seq (Code.block _ c) _)))))) _))))) => c
  | _ => Code.skip
noncomputable def new10 : Code := match rnd10 with
  | Code.seq c _ => c
  | _ => Code.skip
noncomputable def mid10 : Code := match rnd10 with
  | Code.seq _ (Code.seq c _) => c
  | _ => Code.skip
noncomputable def act10 : Code := match rnd10 with
  | Code.seq _ (Code.seq _ (Code.seq c _)) => c
  | _ => Code.skip
/-- What the bytes read so far are, as long as nothing failed (f) and nothing was wrong (x). -/
def St2 (s : List UInt8) (i : Nat) (f x : Int) (pre : List UInt8) : Prop := f = 0 → x = 0 → s.take i = pre
theorem St2.of {s : List UInt8} {i : Nat} {f x : Int} {pre : List UInt8} (h : St s i f pre) : St2 s i f x pre := fun h1 _ => h h1
theorem St2.num {s : List UInt8} {i i1 n : Nat} {f f1 x : Int} {pre : List UInt8} {most : Int} (h : St2 s i f x pre) (hr : Hid (rdNum s i f most = (n, i1, f1))) : St2 s i1 f1 x (pre ++ encN n) := by
  intro h0 hx
  obtain ⟨h1, _, h2, _⟩ := rdNum_enc (by rw [hr.out, h0])
  rw [h2, h h1 hx]
theorem St2.txt {s l : List UInt8} {i i1 : Nat} {f f1 x : Int} {pre : List UInt8} {most : Int} (h : St2 s i f x pre) (hr : Hid (rdTxt s i f most = (l, i1, f1))) : St2 s i1 f1 x (pre ++ encT l) := by
  intro h0 hx
  obtain ⟨h1, _, h2, _⟩ := rdTxt_enc (by rw [hr.out, h0])
  rw [h2, h h1 hx]
theorem St2.dig {s l : List UInt8} {i i1 : Nat} {f f1 x x' : Int} {pre : List UInt8} (h : St2 s i f x pre) (hr : Hid (rdTxt s i f 32 = (l, i1, f1))) (h3 : l.length < 32 → x' = 3) (h4 : ¬ l.length < 32 → x' = x) : St2 s i1 f1 x' (pre ++ encT (dgl l)) := by
  intro h0 hx
  have hl := rdTxt_len32 s i f
  rw [hr.out] at hl
  by_cases h5 : l.length < 32
  · rw [h3 h5] at hx; cases hx
  · rw [dgl_full (by simp only at hl; omega)]
    exact (h.txt hr) h0 ((h4 h5).symm.trans hx)
/-- All blocks of W but the reader's are as they were; the reader's state. -/
structure Far (w0 : World) (B0 : Nat) (W X : World) (R B c : Nat) (s : List UInt8) (i : Nat) (f : Int) : Prop where
  far : ∀ (j : Nat), j < W.heap.size → j ≠ R → X.heap[j]? = W.heap[j]?
  rd : Rd X R B c s i f
  bel : Below B0 w0 X
  size : W.heap.size ≤ X.heap.size
  base : B0 ≤ W.heap.size
  rlow : B0 ≤ R
section
variable {w0 W X w' : World} {B0 R B c : Nat} {s : List UInt8} {i : Nat} {f : Int}
theorem Far.start (h : Rd W R B c s i f) (hb : Below B0 w0 W) (h0 : B0 ≤ W.heap.size) (hr : B0 ≤ R) : Far w0 B0 W W R B c s i f := ⟨fun _ _ _ => rfl, h, hb, Nat.le_refl _, h0, hr⟩
theorem Far.alloc (h : Far w0 B0 W X R B c s i f) (o : Obj) : Far w0 B0 W (X.alloc o) R B c s i f :=
  ⟨fun j hj hne => (Below.heap_alloc _ _ _ (Nat.lt_of_lt_of_le hj h.size)).trans (h.far j hj hne), h.rd.alloc o, h.bel.alloc (Nat.le_trans h.base h.size) _, Nat.le_trans h.size (by simp), h.base, h.rlow⟩
theorem Far.drew (h : Far w0 B0 W X R B c s i f) : Far w0 B0 W X.drew R B c s i f := ⟨h.far, h.rd.kept rfl rfl, h.bel.drew, h.size, h.base, h.rlow⟩
theorem Far.old (h : Far w0 B0 W X R B c s i f) {j : Nat} {cs : Array Value} {t : TypeId} {fz : Nat × Nat} (hj : W.heap[j]? = some (.cells cs t fz)) (hR : j ≠ R) : X.heap[j]? = some (.cells cs t fz) :=
  (h.far j (Array.getElem?_eq_some_iff.1 hj).1 hR).trans hj
theorem Far.grown {i' : Nat} {f' : Int} (h : Far w0 B0 W X R B c s i f) (g : X.grownBy w' (some R)) (hr : Rd w' R B c s i' f') : Far w0 B0 W w' R B c s i' f' :=
  ⟨fun j hj hne => (g.block j (Nat.lt_of_lt_of_le hj h.size) (by simpa using hne)).trans (h.far j hj hne), hr, h.bel.grown g (Nat.le_trans h.base h.size) (fun k e => by cases e; exact h.rlow), Nat.le_trans h.size g.size, h.base, h.rlow⟩
theorem Far.num {most : Int} {n j : Nat} {g : Int} (h : Far w0 B0 W X R B c s i f) (hr : Hid (rdNum s i f most = (n, j, g))) :
    Calls Tryz.prog 35 #[.pointer (some ⟨R, 0, none⟩), .int .i64 most] X fun e w' => e = .returned (.int .i64 n) ∧ Far w0 B0 W w' R B c s j g ∧ ∀ (b : Nat) (cs : Array Value) (t : TypeId) (fz : Nat × Nat), X.heap[b]? = some (.cells cs t fz) → t ≠ 189 → w'.heap[b]? = some (.cells cs t fz) := by
  have := number_any R B c i f most s X h.rd
  rw [hr.out] at this
  exact this.mono fun e w' ⟨h1, h2, h3⟩ => ⟨h1, h.grown h3 h2, fun b cs t fz hb ht => h.rd.keep h3 hb ht⟩
theorem Far.txt {most : Int} {l : List UInt8} {j : Nat} {g : Int} (h : Far w0 B0 W X R B c s i f) (hm : ¬ (16777216 < most)) (hr : Hid (rdTxt s i f most = (l, j, g))) :
    Calls Tryz.prog 34 #[.pointer (some ⟨R, 0, none⟩), .int .i64 most] X fun e w' => e = .returned (str l) ∧ Far w0 B0 W w' R B c s j g ∧ ∀ (b : Nat) (cs : Array Value) (t : TypeId) (fz : Nat × Nat), X.heap[b]? = some (.cells cs t fz) → t ≠ 189 → w'.heap[b]? = some (.cells cs t fz) := by
  have := text_any R B c i f most s X hm h.rd
  rw [hr.out] at this
  exact this.mono fun e w' ⟨h1, h2, h3⟩ => ⟨h1, h.grown h3 h2, fun b cs t fz hb ht => h.rd.keep h3 hb ht⟩
theorem Far.set (h : Far w0 B0 W X R B c s i f) {b j : Nat} {v : Value} (hb : W.heap.size ≤ b) (hR : b ≠ R) (hB : b ≠ B) : Far w0 B0 W (X.setCell ⟨b, j, none⟩ v) R B c s i f :=
  ⟨fun k hk hne => (Below.heap_setCell _ _ _ _ (by show k ≠ b; omega)).trans (h.far k hk hne), h.rd.kept (Below.heap_setCell _ _ _ _ (Ne.symm hR)) (Below.heap_setCell _ _ _ _ (Ne.symm hB)), h.bel.setCell (p := ⟨b, j, none⟩) (Nat.le_trans h.base hb) _, Nat.le_trans h.size (by simp [World.setCell]), h.base, h.rlow⟩
theorem Far.set4 (h : Far w0 B0 W X R B c s i f) {b : Nat} {v0 v1 v2 v3 : Value} (hb : W.heap.size ≤ b) (hR : b ≠ R) (hB : b ≠ B) : Far w0 B0 W ((((X.setCell ⟨b, 0, none⟩ v0).setCell ⟨b, 1, none⟩ v1).setCell ⟨b, 2, none⟩ v2).setCell ⟨b, 3, none⟩ v3) R B c s i f :=
  (((h.set hb hR hB).set hb hR hB).set hb hR hB).set hb hR hB
theorem Far.trans {i' : Nat} {f' : Int} {Y : World} (h : Far w0 B0 W X R B c s i f) (k : Far w0 B0 X Y R B c s i' f') : Far w0 B0 W Y R B c s i' f' :=
  ⟨fun j hj hne => (k.far j (Nat.lt_of_lt_of_le hj h.size) hne).trans (h.far j hj hne), k.rd, k.bel, Nat.le_trans h.size k.size, h.base, h.rlow⟩
end
theorem heap_setcells4 {w : World} {b : Nat} {x0 x1 x2 x3 v0 v1 v2 v3 : Value} {t : TypeId} (h : w.heap[b]? = some (.cells #[x0, x1, x2, x3] t (0, 0))) :
    ((((w.setCell ⟨b, 0, none⟩ v0).setCell ⟨b, 1, none⟩ v1).setCell ⟨b, 2, none⟩ v2).setCell ⟨b, 3, none⟩ v3).heap[b]? = some (.cells #[v0, v1, v2, v3] t (0, 0)) := by
  rw [heap_setj (heap_setj (heap_setj (heap_setj h)))]
  simp
theorem heap_frozen4 {w : World} {b : Nat} {cs : Array Value} {t : TypeId} (h : w.heap[b]? = some (.cells cs t (0, 0))) :
    w.frozen? ⟨b, 0, none⟩ = false ∧ w.frozen? ⟨b, 1, none⟩ = false ∧ w.frozen? ⟨b, 2, none⟩ = false ∧ w.frozen? ⟨b, 3, none⟩ = false :=
  ⟨frozen_of_heap h, frozen_of_heap h, frozen_of_heap h, frozen_of_heap h⟩
end Go.Proofs.YtedfhallhpkkhaaGreatDoor.X
