/- receipt.Decode: what the outer loop keeps. -/
import Derived.Test.YtedfhallhpkkhaaGreatDoorZN
import Derived.Test.YtedfhallhpkkhaaGreatDoorZM
set_option linter.unusedVariables false
set_option linter.unusedSimpArgs false
namespace Go.Proofs.YtedfhallhpkkhaaGreatDoor.X
open Go Go.RowKit

/-- The fields of a receipt but its actions. -/
structure Hdr where
  k : Nat
  o : List UInt8
  n : Nat
  i : Nat
  t : List UInt8
  at' : Nat
  len : Nat
def Hdr.cells (h : Hdr) (v : Value) : Array Value := #[.int .i64 h.k, str h.o, .int .i64 h.n, .int .i64 h.i, str h.t, .int .i64 h.at', .int .i64 h.len, v]
def z8 : Array Value := #[.int .i64 0, .string ⟨#[]⟩, .int .i64 0, .int .i64 0, .string ⟨#[]⟩, .int .i64 0, .int .i64 0, .slice none 0 0]
def AcOk (a : AcP) : Prop := a.idx < 2 ^ 63 ∧ a.txt.length ≤ 400 ∧ a.path.length ≤ 64
structure Rcp (w0 : World) (B0 : Nat) (X : World) (R B c N M : Nat) (s : List UInt8) (h : Hdr) (wr0 : Int) (pre : List UInt8) (v : Value) (l : List (AcP × Value)) (i : Nat) (f x : Int) : Prop where
  rd : Rd X R B c s i f
  hN : X.heap[N]? = some (.cells z8 29 (0, 0))
  hM : X.heap[M]? = some (.cells (h.cells v) 29 (0, 0))
  acts : ActsAt X B0 h.len v l
  bel : Below B0 w0 X
  ok : ∀ a ∈ l, AcOk a.1
  wrong : x = 0 → wr0 = 0
  enc : St2 s i f x (pre ++ encAcs (l.map (·.1)))
  size : B0 ≤ X.heap.size
theorem acRow_snoc (n : Nat) (l : List (AcP × Value)) (a : AcP) (pv : Value) : acRow n (l ++ [(a, pv)]) = acRow n l ++ [.int .i64 a.idx, .int .i64 n, str a.txt, pv] := by simp [acRow]
section
variable {w0 X W1 W2 W3 : World} {B0 R B c N M P : Nat} {s : List UInt8} {h : Hdr} {wr0 : Int} {pre : List UInt8} {v v' : Value} {l : List (AcP × Value)} {i i2 i3 : Nat} {f f2 f3 x x3 : Int} {idx : Nat} {txt : List UInt8} {pv : Value} {path : List (List UInt8)} {pre2 : List UInt8}
theorem Rcp.old (hr : Rcp w0 B0 X R B c N M s h wr0 pre v l i f x) (hF : Far w0 B0 X W1 R B c s i2 f2) (hp : Pth w0 B0 W1 W2 R B c P X.heap.size s (.int .i64 idx) (.int .i64 h.len) (str txt) x pre2 pv path i3 f3 x3)
    {j : Nat} {cs : Array Value} {t : TypeId} {fz : Nat × Nat} (hj : X.heap[j]? = some (.cells cs t fz)) (ht : t ≠ 189) : W2.heap[j]? = some (.cells cs t fz) := by
  have hlt := (Array.getElem?_eq_some_iff.1 hj).1
  have hne : j ≠ R := fun e => by
    have := hr.rd.obj
    rw [← e, hj] at this
    cases this
    exact ht rfl
  exact (hp.far j hlt hne).trans ((hF.far j hlt hne).trans hj)
theorem Rcp.own2 (hr : Rcp w0 B0 X R B c N M s h wr0 pre v l i f x) (hF : Far w0 B0 X W1 R B c s i2 f2) (hp : Pth w0 B0 W1 W2 R B c P X.heap.size s (.int .i64 idx) (.int .i64 h.len) (str txt) x pre2 pv path i3 f3 x3) :
    W2.ownsRow B0 61 4 v l.length (acRow h.len l) :=
  own_same hr.acts.1 fun j hj => by
    obtain ⟨cs, h1⟩ := own_type hr.acts.1 hj
    exact (hr.old hF hp h1 (by decide)).trans h1.symm
theorem Rcp.next (hr : Rcp w0 B0 X R B c N M s h wr0 pre v l i f x) (hF : Far w0 B0 X W1 R B c s i2 f2) (hp : Pth w0 B0 W1 W2 R B c P X.heap.size s (.int .i64 idx) (.int .i64 h.len) (str txt) x (pre ++ encAcs (l.map (·.1)) ++ encN idx ++ encT txt ++ encN path.length) pv path i3 f3 x3)
    (hNM : N ≠ M) (hMB : B0 ≤ M) (hok : AcOk ⟨idx, txt, path⟩)
    (hown : W3.ownsRow B0 61 4 v' (l.length + 1) (acRow h.len l ++ [.int .i64 idx, .int .i64 h.len, str txt, pv])) (hg : (W2.alloc (.cells #[.int .i64 idx, .int .i64 h.len, str txt, pv] 61)).grownBy W3 v.ownBlock) (hM3 : W3.heap[M]? = some (.cells (h.cells v) 29 (0, 0))) :
    Rcp w0 B0 (W3.setCell ⟨M, 7, none⟩ v') R B c N M s h wr0 pre v' (l ++ [(⟨idx, txt, path⟩, pv)]) i3 f3 x3 := by
  have hown2 := hr.own2 hF hp
  have h23 : ∀ (j : Nat) (cs : Array Value) (t : TypeId) (fz : Nat × Nat), W2.heap[j]? = some (.cells cs t fz) → t ≠ 61 → W3.heap[j]? = some (.cells cs t fz) := fun j cs t fz hj ht => by
    have hlt := (Array.getElem?_eq_some_iff.1 hj).1
    refine (hg.block j (by simp; omega) (fun e => ?_)).trans ((Below.heap_alloc _ _ _ hlt).trans hj)
    obtain ⟨cs', h5⟩ := own_type hown2 e.symm
    rw [hj] at h5
    cases h5
    exact ht rfl
  have hset : ∀ (j : Nat) (cs : Array Value) (t : TypeId) (fz : Nat × Nat), W3.heap[j]? = some (.cells cs t fz) → t ≠ 29 → (W3.setCell ⟨M, 7, none⟩ v').heap[j]? = some (.cells cs t fz) := fun j cs t fz hj ht =>
    (Below.heap_setCell _ _ _ _ (fun e => by rw [show j = M from e, hM3] at hj; cases hj; exact ht rfl)).trans hj
  have hpath : ∀ (p : List (List UInt8)) (u : Value), PathAt W2 B0 u p → PathAt (W3.setCell ⟨M, 7, none⟩ v') B0 u p := fun p u hu => hu.same fun j cs fz hj => (hset _ _ _ _ (h23 _ _ _ _ hj (by decide)) (by decide)).trans hj.symm
  refine ⟨?_, ?_, ?_, ?_, ?_, ?_, fun h0 => hr.wrong (hp.wrong h0), ?_, ?_⟩
  · obtain ⟨cs, fz, q1, q2⟩ := hp.rd.row
    exact hp.rd.kept ((hset _ _ _ _ (h23 _ _ _ _ hp.rd.obj (by decide)) (by decide)).trans hp.rd.obj.symm) ((hset _ _ _ _ (h23 _ _ _ _ q1 (by decide)) (by decide)).trans q1.symm)
  · exact (Below.heap_setCell _ _ _ _ hNM).trans (h23 _ _ _ _ (hr.old hF hp hr.hN (by decide)) (by decide))
  · rw [heap_setj hM3]; simp [Hdr.cells]
  · refine ⟨?_, fun a ha => ?_⟩
    · rw [List.length_append, acRow_snoc]
      refine own_same hown fun j hj => ?_
      obtain ⟨cs, h1⟩ := own_type hown hj
      exact (hset _ _ _ _ h1 (by decide)).trans h1.symm
    · rcases List.mem_append.1 ha with h1 | h1
      · exact hpath _ _ ((hr.acts.2 a h1).same fun j cs fz hj => (hr.old hF hp hj (by decide)).trans hj.symm)
      · rw [List.mem_singleton.1 h1]
        exact hpath _ _ ⟨own_low hp.hpath.1 hr.size, hp.hpath.2⟩
  · exact ((hp.bel.alloc (Nat.le_trans hr.size (Nat.le_trans hF.size hp.size)) _).grown hg (Nat.le_trans hr.size (Nat.le_trans hF.size (Nat.le_trans hp.size (by simp)))) (fun k e => own_lt hown2 e)).setCell (p := ⟨M, 7, none⟩) hMB _
  · intro a ha
    rcases List.mem_append.1 ha with h1 | h1
    · exact hr.ok a h1
    · rw [List.mem_singleton.1 h1]; exact hok
  · have := hp.enc
    rw [List.map_append, List.map_singleton, encAcs_snoc]
    simpa [encAc, List.append_assoc] using this
  · exact Nat.le_trans hr.size (Nat.le_trans hF.size (Nat.le_trans hp.size (Nat.le_trans (by simp) (Nat.le_trans hg.size (by simp [World.setCell])))))
end
end Go.Proofs.YtedfhallhpkkhaaGreatDoor.X
