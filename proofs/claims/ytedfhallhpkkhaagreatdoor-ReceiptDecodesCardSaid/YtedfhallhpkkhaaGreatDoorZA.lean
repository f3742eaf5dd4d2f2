/- Names and receipts as bytes: what is read is the encoding (plain law). -/
import Derived.Test.YtedfhallhpkkhaaGreatDoorZ6
import Derived.Test.YtedfhallhpkkhaaGreatDoorZ7
set_option linter.unusedVariables false
set_option linter.unusedSimpArgs false
namespace Go.Proofs.YtedfhallhpkkhaaGreatDoor.X

/-- As long as nothing failed, what was read is the encoding of what it gave. -/
def St (bs : List UInt8) (i : Nat) (f : Int) (pre : List UInt8) : Prop := f = 0 → bs.take i = pre
theorem St.start (bs : List UInt8) : St bs 0 0 [] := fun _ => by simp
theorem St.num {bs : List UInt8} {i : Nat} {f : Int} {pre : List UInt8} (h : St bs i f pre) (most : Int) : St bs (rdNum bs i f most).2.1 (rdNum bs i f most).2.2 (pre ++ encN (rdNum bs i f most).1) := by
  intro h0
  obtain ⟨h1, _, h2, _⟩ := rdNum_enc (bs := bs) (i := i) (f := f) (most := most) (n := (rdNum bs i f most).1) (j := (rdNum bs i f most).2.1) (by rw [← h0])
  rw [h2, h h1]
theorem St.txt {bs : List UInt8} {i : Nat} {f : Int} {pre : List UInt8} (h : St bs i f pre) (most : Int) : St bs (rdTxt bs i f most).2.1 (rdTxt bs i f most).2.2 (pre ++ encT (rdTxt bs i f most).1) := by
  intro h0
  obtain ⟨h1, _, h2, _⟩ := rdTxt_enc (bs := bs) (i := i) (f := f) (most := most) (l := (rdTxt bs i f most).1) (j := (rdTxt bs i f most).2.1) (by rw [← h0])
  rw [h2, h h1]

def useO (k : Nat) : Bool := [false, true, true, true, true, true, true, true, true, true, true, true, true, false, false, false, false, false, true, true, false].getD k false
def useN (k : Nat) : Bool := [false, false, false, false, false, false, false, true, true, true, true, true, true, true, false, false, true, false, true, false, false].getD k false
def useT (k : Nat) : Bool := [false, false, false, false, false, false, false, false, false, true, false, false, false, false, true, false, false, true, false, false, false].getD k false
def useM (k : Nat) : Int := [0, -1, -1, 63, -1, -1, -1, -1, 63, -1, -1, -1, -1, -1, -1, -1, -1, -1, 1073741824, -1, -1].getD k (-1)

/-- Readings that a kind may leave out. -/
def optTxt (c : Bool) (bs : List UInt8) (i : Nat) (f most : Int) : List UInt8 × Nat × Int := if c then rdTxt bs i f most else ([], i, f)
def optNum (c : Bool) (bs : List UInt8) (i : Nat) (f most : Int) : Nat × Nat × Int := if c then rdNum bs i f most else (0, i, f)
theorem St.optTxt {bs : List UInt8} {i : Nat} {f : Int} {pre : List UInt8} (h : St bs i f pre) (c : Bool) (most : Int) : St bs (optTxt c bs i f most).2.1 (optTxt c bs i f most).2.2 (pre ++ if c then encT (optTxt c bs i f most).1 else []) := by
  cases c
  · simpa [X.optTxt] using h
  · exact h.txt most
theorem St.optNum {bs : List UInt8} {i : Nat} {f : Int} {pre : List UInt8} (h : St bs i f pre) (c : Bool) (most : Int) : St bs (optNum c bs i f most).2.1 (optNum c bs i f most).2.2 (pre ++ if c then encN (optNum c bs i f most).1 else []) := by
  cases c
  · simpa [X.optNum] using h
  · exact h.num most
structure NmP where
  k : Nat
  o : List UInt8
  n : Nat
  i : Nat
  t : List UInt8
def encNm (x : NmP) : List UInt8 := encN x.k ++ (if useO x.k then encT x.o else []) ++ (if useN x.k then encN x.n else []) ++ (if decide (0 ≤ useM x.k) then encN x.i else []) ++ (if useT x.k then encT x.t else [])
def nmK (bs : List UInt8) := rdNum bs 0 0 20
def nmO (bs : List UInt8) := optTxt (useO (nmK bs).1) bs (nmK bs).2.1 (nmK bs).2.2 bs.length
def nmN (bs : List UInt8) := optNum (useN (nmK bs).1) bs (nmO bs).2.1 (nmO bs).2.2 1073741824
def nmI (bs : List UInt8) := optNum (decide (0 ≤ useM (nmK bs).1)) bs (nmN bs).2.1 (nmN bs).2.2 (useM (nmK bs).1)
def nmT (bs : List UInt8) := optTxt (useT (nmK bs).1) bs (nmI bs).2.1 (nmI bs).2.2 32
def nmOf (bs : List UInt8) : NmP := ⟨(nmK bs).1, (nmO bs).1, (nmN bs).1, (nmI bs).1, (nmT bs).1⟩
theorem cls_zero {bs : List UInt8} {i : Nat} {f : Int} (h : clsF bs i f = 0) : f = 0 ∧ i = bs.length := by
  unfold clsF at h
  split at h
  · rename_i h0
    split at h
    · exact ⟨h0, by assumption⟩
    · cases h
  · contradiction
theorem St.close {bs : List UInt8} {i : Nat} {f : Int} {pre : List UInt8} (h : St bs i f pre) (hc : clsF bs i f = 0) : pre = bs := by
  obtain ⟨h0, rfl⟩ := cls_zero hc
  rw [← h h0]
  simp
theorem nm_enc (bs : List UInt8) (h : clsF bs (nmT bs).2.1 (nmT bs).2.2 = 0) : encNm (nmOf bs) = bs := by
  have := ((((St.start bs).num 20).optTxt (useO (nmK bs).1) bs.length).optNum (useN (nmK bs).1) 1073741824).optNum (decide (0 ≤ useM (nmK bs).1)) (useM (nmK bs).1)
  have := this.optTxt (useT (nmK bs).1) 32
  have := St.close this h
  refine Eq.trans ?_ this
  simp only [encNm, nmOf, List.append_assoc, List.nil_append]
  rfl

structure AcP where
  idx : Nat
  txt : List UInt8
  path : List (List UInt8)
def encPath (p : List (List UInt8)) : List UInt8 := (p.map encT).flatten
def encAc (a : AcP) : List UInt8 := encN a.idx ++ encT a.txt ++ encN a.path.length ++ encPath a.path
def encAcs (l : List AcP) : List UInt8 := (l.map encAc).flatten
theorem encPath_snoc (p : List (List UInt8)) (d : List UInt8) : encPath (p ++ [d]) = encPath p ++ encT d := by simp [encPath]
theorem encAcs_snoc (l : List AcP) (a : AcP) : encAcs (l ++ [a]) = encAcs l ++ encAc a := by simp [encAcs]
end Go.Proofs.YtedfhallhpkkhaaGreatDoor.X
