/- Slices, conversions and append on the local heap. Any program. -/
import Derived.Test.YtedfhallhpkkhaaGreatDoorXd
set_option linter.unusedVariables false
set_option linter.unusedSimpArgs false
namespace Go.Proofs.YtedfhallhpkkhaaGreatDoor.X
open Go
noncomputable section

/-! ### Slicing -/
def bnd (x : Option Value) (y d : Nat) : Option Nat :=
  match x with
  | none => some d
  | some (.int _ i) => if 0 ≤ i ∧ i ≤ y then some i.toNat else none
  | _ => none
theorem bnd_le {x : Option Value} {y d n : Nat} (hd : d ≤ y) (h : bnd x y d = some n) : n ≤ y := by
  unfold bnd at h
  split at h
  · simp only [Option.some.injEq] at h; omega
  · split at h
    · simp only [Option.some.injEq] at h; omega
    · cases h
  · cases h
/-- s[lo:hi] of a slice whose block has exactly its local cells, or that does not begin at its local end; &a[lo:hi] of an array. -/
def lslice (P : Program) (h : LH) (t : TypeId) (x : Value) (lo hi : Option Value) : Option Value :=
  match P.underlying t, x with
  | some (.array n elem), .pointer (some a) =>
    match P.info? elem, cellsAt h a.block with
    | some ie, some (_, 0) =>
      match bnd hi n n with
      | some k => match bnd lo k 0 with
        | some l => some (.slice (some (if n = l then a else a.add (l * ie.size))) (k - l) (n - l))
        | none => none
      | none => none
    | _, _ => none
  | some (.slice elem), .slice (some a) len cap =>
    match P.info? elem, cellsAt h a.block with
    | some ie, some (_, e) =>
      match bnd hi cap len with
      | some k => match bnd lo k 0 with
        | some l => if len ≤ cap ∧ (e = 0 ∨ cap ≠ l ∨ l = 0) then some (.slice (some (if cap = l then a else a.add (l * ie.size))) (k - l) (cap - l)) else none
        | none => none
      | none => none
    | _, _ => none
  | _, _ => none
theorem bnd_some {P : Program} {R : Map} {w : World} {v : Value} {y y' d n : Nat} (hy : y ≤ y') (code : BoundsCode) (h : bnd (some v) y d = some n) :
    (Instr.sliceBound (ren R v) y' code).run P w = .ok n w := by
  unfold bnd at h
  split at h
  · rename_i hx; cases hx
  · rename_i k i hx
    simp only [Option.some.injEq] at hx
    subst hx
    split at h
    case isFalse => cases h
    rename_i hi
    simp only [Option.some.injEq] at h
    subst h
    simp only [ren, Instr.sliceBound, Sem.run_bind, asIntOf, Sem.run_pure, Result.andThen_ok]
    rw [if_pos (by omega)]
    rfl
  · cases h
theorem sliceBounds_ok {P : Program} {R : Map} {w : World} {lo hi : Option Value} {len cap cap' k l : Nat} (b : Bool) (hc : cap ≤ cap') (h1 : bnd hi cap len = some k) (h2 : bnd lo k 0 = some l) :
    (Instr.sliceBounds b len cap' (lo.map (ren R)) (hi.map (ren R)) none).run P w = .ok (l, k, cap') w := by
  cases hi with
  | none =>
    have hk : len = k := by simpa [bnd] using h1
    subst hk
    cases lo with
    | none =>
      have hl : 0 = l := by simpa [bnd] using h2
      subst hl
      simp [Instr.sliceBounds]
    | some v =>
      have e2 := bnd_some (P := P) (R := R) (w := w) (Nat.le_refl len) .sliceB h2
      simp [Instr.sliceBounds, e2]
  | some u =>
    have e1 := bnd_some (P := P) (R := R) (w := w) hc (if b then .sliceAcap else .sliceAlen) h1
    cases lo with
    | none =>
      have hl : 0 = l := by simpa [bnd] using h2
      subst hl
      simp [Instr.sliceBounds, e1]
    | some v =>
      have e2 := bnd_some (P := P) (R := R) (w := w) (Nat.le_refl k) .sliceB h2
      simp [Instr.sliceBounds, e1, e2]
theorem ren_at (R : Map) (a : Addr) (n : Nat) (h : a.spot = none) : ren R (.pointer (some (a.add n))) = .pointer (some ((⟨R.b a.block, a.off, a.spot⟩ : Addr).add n)) := by
  rw [(add_ren R a n h).1]; rfl
theorem lslice_ok {P : Program} {R : Map} {h : LH} {w : World} {t : TypeId} {x v : Value} {lo hi : Option Value} (r : HRel R h w.heap) (hx : wfv R x) (hv : lslice P h t x lo hi = some v) :
    (Instr.sliceAt t (ren R x) (lo.map (ren R)) (hi.map (ren R)) none).run P w = .ok (ren R v) w ∧ wfv R v := by
  unfold lslice at hv
  split at hv
  · rename_i n elem a hu
    split at hv
    case h_2 => cases hv
    rename_i ie c hie hc
    split at hv
    case h_2 => cases hv
    rename_i k hk
    split at hv
    case h_2 => cases hv
    rename_i l hl
    simp only [Option.some.injEq] at hv
    subst hv
    simp only [wfv] at hx
    obtain ⟨_, _, _, _, _, _, _, h5, _⟩ := r.cells hc
    have hd : R.d a.block = 0 := h5 rfl
    obtain ⟨h1, h2, h3⟩ := add_ren R a (l * ie.size) hx.2
    have hb := sliceBounds_ok (P := P) (R := R) (w := w) false (Nat.le_refl n) hk hl
    refine ⟨?_, ?_⟩
    · simp only [Instr.sliceAt, Sem.run_bind, run_underlying hu w, Result.andThen_ok, Instr.sureAddr, ren, Sem.run_pure, hb, sizeOf, typeInfo, run_program, hie]
      congr 2
      · congr 1; split
        · rfl
        · exact h1
      · have : (if n = l then a else a.add (l * ie.size)).block = a.block := by split <;> simp [h3]
        rw [this, hd]; rfl
    · simp only [wfv]
      split
      · exact hx
      · rw [h3]; exact ⟨hx.1, h2⟩
  · rename_i elem a len cap hu
    split at hv
    case h_2 => cases hv
    rename_i ie c e hie hc
    split at hv
    case h_2 => cases hv
    rename_i k hk
    split at hv
    case h_2 => cases hv
    rename_i l hl
    split at hv
    case isFalse => cases hv
    rename_i hcond
    simp only [Option.some.injEq] at hv
    subst hv
    simp only [wfv] at hx
    obtain ⟨_, _, _, _, _, _, _, h5, _⟩ := r.cells hc
    obtain ⟨h1, h2, h3⟩ := add_ren R a (l * ie.size) hx.2
    have hkc : k ≤ cap := bnd_le hcond.1 hk
    have hlk : l ≤ k := bnd_le (by omega) hl
    have hb := sliceBounds_ok (P := P) (R := R) (w := w) true (Nat.le_add_right cap (R.d a.block)) hk hl
    have hblk : (if cap = l then a else a.add (l * ie.size)).block = a.block := by split <;> simp [h3]
    refine ⟨?_, ?_⟩
    · simp only [Instr.sliceAt, Instr.slice, Sem.run_bind, run_underlying hu w, Result.andThen_ok, ren, hb, sizeOf, typeInfo, run_program, hie, Sem.run_pure]
      rw [hblk]
      congr 2
      · by_cases hcl : cap = l
        · rw [if_pos hcl]
          by_cases hd : cap + R.d a.block = l
          · rw [if_pos hd]
          · rw [if_neg hd]
            have : l = 0 := by
              rcases hcond.2 with h6 | h6 | h6
              · exact absurd (by rw [h5 h6]; omega) hd
              · exact absurd hcl h6
              · exact h6
            subst this
            simp [Addr.add]
        · rw [if_neg hcl, if_neg (by omega)]
          simp only [Option.map_some]
          rw [h1, h3]
      · omega
    · simp only [wfv]
      split
      · exact hx
      · rw [h3]; exact ⟨hx.1, h2⟩
  · cases hv

/-! ### Bytes and strings -/
def byteCells (s : ByteArray) : List Value := s.data.toList.map fun b => .int .u8 b.toNat
theorem byteCells_plain (R : Map) (s : ByteArray) : renL R (byteCells s) = byteCells s ∧ wfL R (byteCells s) := by
  unfold byteCells
  induction s.data.toList with
  | nil => simp [renL, wfL]
  | cons b l ih => simp [renL, wfL, ih, ren, wfv]
def lbytesOf (h : LH) (s : ByteArray) : Value × LH := (.slice (some ⟨h.next, 0, none⟩) s.size s.size, h.add (.cells (byteCells s) 1))
theorem run_markStringish {P : Program} (w : World) (b : Nat) (cs : Array Value) (elem : TypeId) (f : Nat × Nat) (hb : w.heap[b]? = some (.cells cs elem f)) :
    (markStringish ⟨b, 0, none⟩).run P w = .ok () (w.freeze ⟨b, cs.size, none⟩ 1) := by
  simp [markStringish, World.shape?, hb]
theorem stringToBytes_ok {P : Program} {R : Map} {h : LH} {w : World} (r : HRel R h w.heap) (elem : TypeId) (s : ByteArray) :
    OpOk P R h w (Conv.stringToBytes elem s) (lbytesOf h s).1 (lbytesOf h s).2 := by
  let cap := (Question.appendCap s.size 0 elem).cut (w.tape w.drawn (.appendCap s.size 0 elem))
  have hcap : s.size ≤ cap := by simp only [cap, Question.cut]; omega
  let cs : Array Value := (s.data.map fun b => Value.int .u8 b.toNat) ++ Array.replicate (cap - s.size) (.int .u8 0)
  have hcs : cs.size = cap := by simp only [cs, Array.size_append, Array.size_map, Array.size_replicate]; show s.size + (cap - s.size) = cap; omega
  let w1 : World := { w with drawn := w.drawn + 1 }
  let w2 : World := { w1 with heap := w1.heap.push (.cells cs elem (cap, cap + 1)) }
  refine ⟨R.put h.next w.heap.size (cap - s.size), w2, ?_, ⟨Map.put_isSome _ _ _ _, rfl⟩, ?_⟩
  · have hm := run_markStringish (P := P) { w1 with heap := w1.heap.push (.cells cs elem) } w1.heap.size cs elem (0, 0) (by simp)
    have hfz : ({ w1 with heap := w1.heap.push (.cells cs elem) } : World).freeze ⟨w1.heap.size, cs.size, none⟩ 1 = w2 := by
      simp only [World.freeze]
      rw [if_neg (by omega)]
      simp only [w2]
      congr 1
      apply Array.ext_getElem?
      intro k
      simp only [Array.getElem?_modify, Array.getElem?_push]
      by_cases hk : k = w1.heap.size
      · subst hk; simp [hcs]
      · simp only [if_neg hk]
        rw [if_neg (fun e => hk e.symm)]
    rw [hfz] at hm
    have hrun : (Conv.stringToBytes elem s).run P w = .ok (.slice (some ⟨w.heap.size, 0, none⟩) s.size cap) w2 := by
      have hc : (choose (.appendCap s.size 0 elem)).run P w = .ok cap w1 := by
        rw [run_choose]; rfl
      have hn : (newRow elem cs).run P w1 = .ok ⟨w1.heap.size, 0, none⟩ { w1 with heap := w1.heap.push (.cells cs elem) } := by simp [newRow]
      simp only [Conv.stringToBytes, Sem.run_bind, hc, Result.andThen_ok]
      show ((newRow elem cs).run P w1).andThen _ = _
      rw [hn]
      simp only [Result.andThen_ok, Sem.run_bind, hm, Sem.run_pure]
      rfl
    rw [hrun]
    simp only [lbytesOf, ren, Map.put_b, Map.put_d]
    congr 2
    omega
  · have g1 := Goes.drew (w := w) r (w.drawn + 1)
    have hext : R.ext (R.put h.next w.heap.size (cap - s.size)) := Map.put_ext (r.fresh _ (Nat.le_refl _))
    have g2 : Goes R h w1 (R.put h.next w.heap.size (cap - s.size)) (lbytesOf h s).2 w2 := by
      refine Goes.add (w := w1) g1.rel ?_
      refine ⟨cs, elem, (cap, cap + 1), rfl, ?_, fun k v hk => ?_, fun k hk h2 => ?_, fun h0 => by omega, (byteCells_plain _ s).2⟩
      · rw [hcs]; show (byteCells s).length + (R.put h.next w.heap.size (cap - s.size)).d h.next * 1 ≤ cap
        rw [Map.put_d]; simp only [byteCells, List.length_map, Array.length_toList]; show s.size + _ ≤ cap; omega
      · have hv : ren (R.put h.next w1.heap.size (cap - s.size)) v = v := by
          have := (byteCells_plain (R.put h.next w1.heap.size (cap - s.size)) s).1
          rw [renL_eq] at this
          have h3 := congrArg (fun l : List Value => l[k]?) this
          simp only [List.getElem?_map, hk, Option.map_some, Option.some.injEq] at h3
          exact h3
        rw [hv]
        have hk' := hk
        simp only [byteCells, List.getElem?_map] at hk'
        have hlt : k < (s.data.map fun b => Value.int .u8 b.toNat).size := by
          have := (List.getElem?_eq_some_iff.1 hk).1
          simpa [byteCells] using this
        simp only [cs]
        rw [Array.getElem?_append_left hlt]
        simpa using hk'
      · have h3 : (R.put h.next w.heap.size (cap - s.size)).d h.next = cap - s.size := Map.put_d _ _ _ _
        have h4 : (byteCells s).length = s.size := by simp [byteCells]
        rw [h3, h4] at hk
        simp only at h2
        omega
    exact g1.trans g2

def bytesOf? : List Value → Option (List Int)
  | [] => some []
  | .int .u8 n :: l => (bytesOf? l).map (n :: ·)
  | _ => none
theorem bytesOf?_eq : ∀ {l : List Value} {ns : List Int}, bytesOf? l = some ns → l = ns.map (Value.int .u8)
  | [], ns, h => by simp only [bytesOf?, Option.some.injEq] at h; subst h; rfl
  | v :: l, ns, h => by
    cases v with
    | int k n =>
      cases k <;> simp only [bytesOf?, Option.map_eq_some_iff] at h <;> first | cases h | skip
      rename_i ms hm
      obtain ⟨h1, rfl⟩ := hm
      rw [bytesOf?_eq h1]; rfl
    | _ => simp [bytesOf?] at h
theorem foldl_push (ns : List Int) : ∀ (s : ByteArray), ns.foldl (fun r n => r.push (UInt8.ofNat n.toNat)) s = ⟨⟨s.data.toList ++ ns.map fun n => UInt8.ofNat n.toNat⟩⟩ := by
  induction ns with
  | nil => intro s; simp
  | cons n ns ih =>
    intro s
    simp only [List.foldl_cons, ih, List.map_cons]
    congr 2
    simp [ByteArray.push]
def lstring (h : LH) (x : Value) : Option Value :=
  match x with
  | .slice (some a) len _ =>
    match cellsAt h a.block with
    | some (c, _) =>
      if a.off + len ≤ c.length then
        match bytesOf? ((c.drop a.off).take len) with
        | some ns => some (.string ⟨⟨ns.map fun n => UInt8.ofNat n.toNat⟩⟩)
        | none => none
      else none
    | none => none
  | .slice none _ _ => some (.string .empty)
  | _ => none
theorem loadCells_ok {P : Program} {R : Map} {h : LH} {w : World} (r : HRel R h w.heap) {i : Nat} {c : List Value} {e o n : Nat} (hc : cellsAt h i = some (c, e)) (hle : o + n ≤ c.length) :
    (loadCells ⟨R.b i, o, none⟩ n).run P w = .ok (((c.drop o).take n).map (ren R)).toArray w := by
  have hlen : (((c.drop o).take n).map (ren R)).length = n := by simp; omega
  have := run_loadCells_list (P := P) w ⟨R.b i, o, none⟩ (((c.drop o).take n).map (ren R)) (fun j v hj => by
    rw [Addr.add_mid]
    rw [List.getElem?_map] at hj
    simp only [Option.map_eq_some_iff] at hj
    obtain ⟨u, hu, rfl⟩ := hj
    refine r.cell hc ?_
    rw [List.getElem?_take] at hu
    split at hu
    · rw [List.getElem?_drop] at hu; exact hu
    · cases hu)
  rw [hlen] at this
  exact this
theorem lstring_ok {P : Program} {R : Map} {h : LH} {w : World} {x v : Value} (r : HRel R h w.heap) (hx : wfv R x) (hv : lstring h x = some v) :
    (Conv.bytesToString (ren R x)).run P w = .ok (ren R v) w ∧ wfv R v := by
  unfold lstring at hv
  split at hv
  · rename_i a len cap
    split at hv
    case h_2 => cases hv
    rename_i c e hc
    split at hv
    case isFalse => cases hv
    rename_i hle
    split at hv
    case h_2 => cases hv
    rename_i ns hns
    simp only [Option.some.injEq] at hv
    subst hv
    simp only [wfv] at hx
    have hl := loadCells_ok (P := P) r hc hle
    have heq := bytesOf?_eq hns
    rw [heq] at hl
    have hm : ((ns.map (Value.int .u8)).map (ren R)) = ns.map (Value.int .u8) := by
      rw [List.map_map]; rfl
    rw [hm] at hl
    have hspot : (⟨R.b a.block, a.off, a.spot⟩ : Addr) = ⟨R.b a.block, a.off, none⟩ := by rw [hx.2]
    refine ⟨?_, trivial⟩
    simp only [ren, hspot]
    rw [run_bytesToString w _ len _ ns hl, foldl_push]
    rfl
  · simp only [Option.some.injEq] at hv
    subst hv
    exact ⟨rfl, trivial⟩
  · cases hv
end
end Go.Proofs.YtedfhallhpkkhaaGreatDoor.X
