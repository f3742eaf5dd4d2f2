/- object.Decode. -/
import Derived.Test.YtedfhallhpkkhaaGreatDoorZC
import Derived.Deep.RegionWith
import Derived.Lib.Hide
import Derived.Lib.ConvBytes
set_option linter.unusedVariables false
set_option linter.unusedSimpArgs false
namespace Go.Proofs.YtedfhallhpkkhaaGreatDoor.X
open Go Go.RowKit

theorem Rd.keep {w w' : World} {R B c : Nat} {bs : List UInt8} {i : Nat} {f : Int} (h : Rd w R B c bs i f) (g : w.grownBy w' (some R)) {b : Nat} {cs : Array Value} {t : TypeId} {fz : Nat × Nat} (hb : w.heap[b]? = some (.cells cs t fz)) (ht : t ≠ 189) : w'.heap[b]? = some (.cells cs t fz) :=
  (g.block b (Array.getElem?_eq_some_iff.1 hb).1 (fun e => by
    simp only [Option.some.injEq] at e
    rw [e, h.obj] at hb
    cases hb
    exact ht rfl)).trans hb
/-- The place of object.Decode: the result's box N, the name M, what its kind uses u, the reader. -/
structure Sit (w0 W : World) (N M u R B c : Nat) (s : List UInt8) (i : Nat) (f : Int) (y0 y1 y2 y3 y4 : Value) (wd : ByteArray) (b1 b2 b3 : Bool) (m : Int) (c0 c1 c2 c3 c4 : Value) : Prop where
  hN : W.heap[N]? = some (.cells #[y0, y1, y2, y3, y4] 24 (0, 0))
  hM : W.heap[M]? = some (.cells #[c0, c1, c2, c3, c4] 24 (0, 0))
  hu : W.heap[u]? = some (.cells #[.string wd, .bool b1, .bool b2, .bool b3, .int .i64 m] 191 (0, 0))
  rd : Rd W R B c s i f
  bel : Below w0.heap.size w0 W
  mlow : w0.heap.size ≤ M
  rlow : w0.heap.size ≤ R
  nm : N ≠ M
section
variable {w0 W w' : World} {N M u R B c : Nat} {s : List UInt8} {i : Nat} {f : Int} {y0 y1 y2 y3 y4 : Value} {wd : ByteArray} {b1 b2 b3 : Bool} {m : Int} {c0 c1 c2 c3 c4 : Value}
theorem Sit.grown {i' : Nat} {f' : Int} (h : Sit w0 W N M u R B c s i f y0 y1 y2 y3 y4 wd b1 b2 b3 m c0 c1 c2 c3 c4) (g : W.grownBy w' (some R)) (hr : Rd w' R B c s i' f') : Sit w0 w' N M u R B c s i' f' y0 y1 y2 y3 y4 wd b1 b2 b3 m c0 c1 c2 c3 c4 :=
  ⟨h.rd.keep g h.hN (by decide), h.rd.keep g h.hM (by decide), h.rd.keep g h.hu (by decide), hr, h.bel.grown g h.bel.size (fun k e => by cases e; exact h.rlow), h.mlow, h.rlow, h.nm⟩
theorem Sit.ne (h : Sit w0 W N M u R B c s i f y0 y1 y2 y3 y4 wd b1 b2 b3 m c0 c1 c2 c3 c4) : u ≠ M ∧ R ≠ M ∧ B ≠ M := by
  refine ⟨fun e => ?_, fun e => ?_, fun e => ?_⟩
  · have := h.hu; rw [e, h.hM] at this; simp at this
  · have := h.rd.obj; rw [e, h.hM] at this; simp at this
  · obtain ⟨cs, fz, h1, _⟩ := h.rd.row; rw [e, h.hM] at h1; simp at h1
theorem Sit.sets (h : Sit w0 W N M u R B c s i f y0 y1 y2 y3 y4 wd b1 b2 b3 m c0 c1 c2 c3 c4) {j : Nat} {v d0 d1 d2 d3 d4 : Value} (hs : (W.setCell ⟨M, j, none⟩ v).heap[M]? = some (.cells #[d0, d1, d2, d3, d4] 24 (0, 0))) : Sit w0 (W.setCell ⟨M, j, none⟩ v) N M u R B c s i f y0 y1 y2 y3 y4 wd b1 b2 b3 m d0 d1 d2 d3 d4 := by
  obtain ⟨h1, h2, h3⟩ := h.ne
  exact ⟨(Below.heap_setCell _ _ _ _ h.nm).trans h.hN, hs, (Below.heap_setCell _ _ _ _ h1).trans h.hu, h.rd.kept (Below.heap_setCell _ _ _ _ h2) (Below.heap_setCell _ _ _ _ h3), h.bel.setCell (p := ⟨M, j, none⟩) h.mlow _, h.mlow, h.rlow, h.nm⟩
theorem Sit.set1 (h : Sit w0 W N M u R B c s i f y0 y1 y2 y3 y4 wd b1 b2 b3 m c0 c1 c2 c3 c4) (v : Value) : Sit w0 (W.setCell ⟨M, 1, none⟩ v) N M u R B c s i f y0 y1 y2 y3 y4 wd b1 b2 b3 m c0 v c2 c3 c4 :=
  h.sets (by unfold World.setCell; simp only [Array.getElem?_modify, if_true, h.hM]; rfl)
theorem Sit.set2 (h : Sit w0 W N M u R B c s i f y0 y1 y2 y3 y4 wd b1 b2 b3 m c0 c1 c2 c3 c4) (v : Value) : Sit w0 (W.setCell ⟨M, 2, none⟩ v) N M u R B c s i f y0 y1 y2 y3 y4 wd b1 b2 b3 m c0 c1 v c3 c4 :=
  h.sets (by unfold World.setCell; simp only [Array.getElem?_modify, if_true, h.hM]; rfl)
theorem Sit.set3 (h : Sit w0 W N M u R B c s i f y0 y1 y2 y3 y4 wd b1 b2 b3 m c0 c1 c2 c3 c4) (v : Value) : Sit w0 (W.setCell ⟨M, 3, none⟩ v) N M u R B c s i f y0 y1 y2 y3 y4 wd b1 b2 b3 m c0 c1 c2 v c4 :=
  h.sets (by unfold World.setCell; simp only [Array.getElem?_modify, if_true, h.hM]; rfl)
theorem Sit.set4 (h : Sit w0 W N M u R B c s i f y0 y1 y2 y3 y4 wd b1 b2 b3 m c0 c1 c2 c3 c4) (v : Value) : Sit w0 (W.setCell ⟨M, 4, none⟩ v) N M u R B c s i f y0 y1 y2 y3 y4 wd b1 b2 b3 m c0 c1 c2 c3 v :=
  h.sets (by unfold World.setCell; simp only [Array.getElem?_modify, if_true, h.hM]; rfl)
theorem Sit.num {most : Int} {n j : Nat} {g : Int} (h : Sit w0 W N M u R B c s i f y0 y1 y2 y3 y4 wd b1 b2 b3 m c0 c1 c2 c3 c4) (hr : Hid (rdNum s i f most = (n, j, g))) :
    Calls Tryz.prog 35 #[.pointer (some ⟨R, 0, none⟩), .int .i64 most] W fun e w' => e = .returned (.int .i64 n) ∧ Sit w0 w' N M u R B c s j g y0 y1 y2 y3 y4 wd b1 b2 b3 m c0 c1 c2 c3 c4 := by
  have := number_any R B c i f most s W h.rd
  rw [hr.out] at this
  exact this.mono fun e w' ⟨h1, h2, h3⟩ => ⟨h1, h.grown h3 h2⟩
theorem Sit.txt {most : Int} {l : List UInt8} {j : Nat} {g : Int} (h : Sit w0 W N M u R B c s i f y0 y1 y2 y3 y4 wd b1 b2 b3 m c0 c1 c2 c3 c4) (hm : ¬ (16777216 < most)) (hr : Hid (rdTxt s i f most = (l, j, g))) :
    Calls Tryz.prog 34 #[.pointer (some ⟨R, 0, none⟩), .int .i64 most] W fun e w' => e = .returned (str l) ∧ Sit w0 w' N M u R B c s j g y0 y1 y2 y3 y4 wd b1 b2 b3 m c0 c1 c2 c3 c4 := by
  have := text_any R B c i f most s W hm h.rd
  rw [hr.out] at this
  exact this.mono fun e w' ⟨h1, h2, h3⟩ => ⟨h1, h.grown h3 h2⟩
theorem Sit.close (h : Sit w0 W N M u R B c s i f y0 y1 y2 y3 y4 wd b1 b2 b3 m c0 c1 c2 c3 c4) :
    Calls Tryz.prog 37 #[.pointer (some ⟨R, 0, none⟩)] W fun e w' => e = .returned (.int .i64 (clsF s i f)) ∧ Sit w0 w' N M u R B c s i f y0 y1 y2 y3 y4 wd b1 b2 b3 m c0 c1 c2 c3 c4 := by
  refine (close_any R B c i f s W h.rd).mono fun e w' ⟨h1, h2, h3⟩ => ⟨h1, h.grown ⟨h3.os, h3.tape, h3.output, h3.size, fun k hk _ => h3.block k hk (by simp)⟩ h2⟩
theorem Sit.cls {x : Int} (h : Sit w0 W N M u R B c s i f y0 y1 y2 y3 y4 wd b1 b2 b3 m c0 c1 c2 c3 c4) (hx : Hid (clsF s i f = x)) :
    Calls Tryz.prog 37 #[.pointer (some ⟨R, 0, none⟩)] W fun e w' => e = .returned (.int .i64 x) ∧ Sit w0 w' N M u R B c s i f y0 y1 y2 y3 y4 wd b1 b2 b3 m c0 c1 c2 c3 c4 := by
  have := h.close
  rw [hx.out] at this
  exact this
theorem Sit.check {e : Int} (h : Sit w0 W N M u R B c s i f y0 y1 y2 y3 y4 wd b1 b2 b3 m c0 c1 c2 c3 c4) (hg : GOk w0.heap) (hc : Fact Tryz.prog 43 [.agg #[c0, c1, c2, c3, c4]] (.int .i64 e)) :
    Calls Tryz.prog 43 #[.agg #[c0, c1, c2, c3, c4]] W fun e' w' => e' = .returned (.int .i64 e) ∧ Sit w0 w' N M u R B c s i f y0 y1 y2 y3 y4 wd b1 b2 b3 m c0 c1 c2 c3 c4 := by
  refine (hc W (hg.of (h.bel.block 0 hg.pos))).mono fun e w' ⟨h1, h2⟩ => ⟨h1, ?_⟩
  have hk : ∀ {b : Nat} {o : Obj}, W.heap[b]? = some o → w'.heap[b]? = some o := fun {b} {o} hb => (h2.block b (Array.getElem?_eq_some_iff.1 hb).1).trans hb
  obtain ⟨cs, fz, q1, q2⟩ := h.rd.row
  exact ⟨hk h.hN, hk h.hM, hk h.hu, h.rd.kept ((hk h.rd.obj).trans h.rd.obj.symm) ((hk q1).trans q1.symm), h.bel.trans (h2.mono h.bel.size), h.mlow, h.rlow, h.nm⟩
end
def zeroNm : Value := .agg #[.int .i64 0, .string ⟨#[]⟩, .int .i64 0, .int .i64 0, .string ⟨#[]⟩]
/-- What Decode leaves. -/
def DecPost (good : Prop) (nm : Value) (w : World) (e : Ending) (w' : World) : Prop :=
  (good → e = .returned (.tuple #[nm, .int .i64 0])) ∧ (¬ good → e = .returned (.tuple #[zeroNm, .int .i64 3])) ∧ Below w.heap.size w w'
end Go.Proofs.YtedfhallhpkkhaaGreatDoor.X
