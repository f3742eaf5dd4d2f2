/- More operations of the model on the local heap: building, addresses, slices, conversions. Any program. -/
import Derived.Test.YtedfhallhpkkhaaGreatDoorXc
import Derived.Laws.BytesString
import Derived.Room.Entries
set_option linter.unusedVariables false
set_option linter.unusedSimpArgs false
namespace Go.Proofs.YtedfhallhpkkhaaGreatDoor.X
open Go
noncomputable section

/-! ### Build -/
theorem foldl_set_map (f : Value → Value) (off : Nat) : ∀ (l : List (Value × Nat)) (cells : Array Value),
    (l.foldl (fun cs x => cs.setIfInBounds (off + x.2) x.1) cells).map f = (l.map fun x => (f x.1, x.2)).foldl (fun cs x => cs.setIfInBounds (off + x.2) x.1) (cells.map f) := by
  intro l
  induction l with
  | nil => intro cells; rfl
  | cons x l ih => intro cells; simp only [List.foldl_cons, List.map_cons]; rw [ih]; congr 1; simp [Array.map_setIfInBounds]
theorem foldl_set_size (off : Nat) : ∀ (l : List (Value × Nat)) (cells : Array Value),
    (l.foldl (fun cs x => cs.setIfInBounds (off + x.2) x.1) cells).size = cells.size := by
  intro l
  induction l with
  | nil => intro cells; rfl
  | cons x l ih => intro cells; simp only [List.foldl_cons]; rw [ih]; simp
theorem foldl_set_mem (off : Nat) : ∀ (l : List (Value × Nat)) (cells : Array Value) (v : Value),
    v ∈ (l.foldl (fun cs x => cs.setIfInBounds (off + x.2) x.1) cells) → v ∈ cells ∨ ∃ n, (v, n) ∈ l := by
  intro l
  induction l with
  | nil => intro cells v h; exact .inl h
  | cons x l ih =>
    intro cells v h
    simp only [List.foldl_cons] at h
    rcases ih _ v h with h | ⟨n, h⟩
    · rcases Array.mem_or_eq_of_mem_setIfInBounds h with h | h
      · exact .inl h
      · exact .inr ⟨x.2, by simp [h]⟩
    · exact .inr ⟨n, by simp [h]⟩
theorem fill_ren (R : Map) (place : Nat → Option (Nat × Nat)) : ∀ (parts : List (Nat × Value)) (cells : Array Value),
    Instr.fill place (renA R cells) (parts.map fun p => (p.1, ren R p.2)) = (Instr.fill place cells parts).map (renA R) := by
  intro parts
  induction parts with
  | nil => intro cells; rfl
  | cons p parts ih =>
    intro cells
    obtain ⟨i, v⟩ := p
    simp only [List.map_cons, Instr.fill]
    cases hp : place i with
    | none => rfl
    | some q =>
      obtain ⟨off, size⟩ := q
      simp only
      have hs : (ren R v).cells.size = v.cells.size := by rw [cells_ren, renA_eq]; simp
      have hs2 : (renA R cells).size = cells.size := by rw [renA_eq]; simp
      rw [hs, hs2]
      split
      · rfl
      · rw [← ih]
        congr 1
        rw [cells_ren, renA_eq, renA_eq, renA_eq]
        simp only [← Array.foldl_toList, Array.toList_zipIdx, Array.toList_map]
        rw [foldl_set_map (ren R) off]
        congr 1
        simp [List.zipIdx_map]
theorem fill_wf (R : Map) (place : Nat → Option (Nat × Nat)) : ∀ (parts : List (Nat × Value)) (cells cs : Array Value), Instr.fill place cells parts = some cs →
    wfA R cells → (∀ p ∈ parts, wfv R p.2) → wfA R cs := by
  intro parts
  induction parts with
  | nil => intro cells cs h hc _; simp only [Instr.fill, Option.some.injEq] at h; subst h; exact hc
  | cons p parts ih =>
    intro cells cs h hc hp
    obtain ⟨i, v⟩ := p
    simp only [Instr.fill] at h
    cases hq : place i with
    | none => rw [hq] at h; cases h
    | some q =>
      obtain ⟨off, size⟩ := q
      rw [hq] at h
      simp only at h
      split at h
      · cases h
      · refine ih _ _ h ?_ (fun p hpm => hp p (by simp [hpm]))
        rw [wfA_iff] at hc ⊢
        intro x hx
        simp only [← Array.foldl_toList, Array.toList_zipIdx] at hx
        rcases foldl_set_mem off _ _ _ hx with hx | ⟨n, hx⟩
        · exact hc x hx
        · have hv := (wfL_iff _ _).1 (wfv_cells (hp (i, v) (by simp)))
          exact hv x (List.fst_mem_of_mem_zipIdx hx)

def lplaces (P : Program) (fields : Array Field) : Option (Array (Nat × Nat)) := runP P (fields.mapM fun f => do pure (f.offset, ← sizeOf f.type))
def lbuild (P : Program) (t : TypeId) (parts : Array (Nat × Value)) : Option Value :=
  match P.info? t with
  | some i => match i.zero with
    | some z =>
      if plain z = true then
        match P.underlying t with
        | some (.struct fields) =>
          match lplaces P fields with
          | some places => match Instr.fill (places[·]?) z.cells parts.toList with
            | some cells => some (.agg cells)
            | none => none
          | none => none
        | some (.array _ elem) =>
          match P.info? elem with
          | some ie => match Instr.fill (fun i => some (i * ie.size, ie.size)) z.cells parts.toList with
            | some cells => some (.agg cells)
            | none => none
          | none => none
        | _ => none
      else none
    | none => none
  | none => none
theorem lbuild_ok {P : Program} {R : Map} {w : World} {t : TypeId} {parts : Array (Nat × Value)} {v : Value} (hp : ∀ p ∈ parts, wfv R p.2) (hb : lbuild P t parts = some v) :
    (Instr.build t (parts.map fun p => (p.1, ren R p.2))).run P w = .ok (ren R v) w ∧ wfv R v := by
  unfold lbuild at hb
  split at hb
  case h_2 => cases hb
  rename_i i hi
  split at hb
  case h_2 => cases hb
  rename_i z hz
  split at hb
  case isFalse => cases hb
  rename_i hpl
  have hzc : renA R z.cells = z.cells := by rw [← cells_ren, (plain_ren R z hpl).1]
  have hzw : wfA R z.cells := by
    rw [wfA_iff]
    intro x hx
    exact (wfL_iff _ _).1 (wfv_cells (plain_ren R z hpl).2) x (by simpa using hx)
  have hparts : ∀ p ∈ parts.toList, wfv R p.2 := fun p h => hp p (by simpa using h)
  have hfill : ∀ place cells, Instr.fill place z.cells parts.toList = some cells →
      Instr.fill place z.cells (parts.map fun p => (p.1, ren R p.2)).toList = some (renA R cells) := by
    intro place cells h
    have := fill_ren R place parts.toList z.cells
    rw [hzc, h] at this
    simpa using this
  split at hb
  · rename_i fields hu
    split at hb
    case h_2 => cases hb
    rename_i places hpl'
    split at hb
    case h_2 => cases hb
    rename_i cells hf
    simp only [Option.some.injEq] at hb
    subst hb
    refine ⟨?_, fill_wf R _ _ _ _ hf hzw hparts⟩
    have h1 := runP_run hpl' w
    simp only [Instr.build, Sem.run_bind, zeroValue, typeInfo, run_program, Result.andThen_ok, hi, Sem.run_pure, hz, run_underlying hu w, h1, hfill _ _ hf, ren]
  · rename_i n elem hu
    split at hb
    case h_2 => cases hb
    rename_i ie hie
    split at hb
    case h_2 => cases hb
    rename_i cells hf
    simp only [Option.some.injEq] at hb
    subst hb
    refine ⟨?_, fill_wf R _ _ _ _ hf hzw hparts⟩
    simp only [Instr.build, Sem.run_bind, zeroValue, sizeOf, typeInfo, run_program, Result.andThen_ok, hi, Sem.run_pure, hz, run_underlying hu w, hie, hfill _ _ hf, ren]
  · cases hb

def zcs (n : Nat) (z : Value) : Array Value := if n = 0 then #[] else z.cells
def tile (n : Nat) (z : Value) : Array Value := (Array.range n).map ((zcs n z)[· % (zcs n z).size]!)
def lbuildSlice (P : Program) (h : LH) (t : TypeId) (len : Nat) (parts : Array (Nat × Value)) : Option (Value × LH) :=
  match P.underlying t with
  | some (.slice elem) =>
    match P.info? elem with
    | some ie =>
      match ie.zero with
      | some z =>
        if len * ie.size ≤ 16777216 then
          if plainA (tile (len * ie.size) z) = true then
            match Instr.fill (fun i => some (i * ie.size, ie.size)) (tile (len * ie.size) z) parts.toList with
            | some cells => some (.slice (some ⟨h.next, 0, none⟩) len len, h.add (.cells cells.toList 0))
            | none => none
          else none
        else none
      | none => none
    | none => none
  | _ => none
theorem lbuildSlice_ok {P : Program} {R : Map} {h h' : LH} {w : World} {t : TypeId} {len : Nat} {parts : Array (Nat × Value)} {v : Value} (r : HRel R h w.heap) (hp : ∀ p ∈ parts, wfv R p.2)
    (hb : lbuildSlice P h t len parts = some (v, h')) : OpOk P R h w (Instr.buildSlice t len (parts.map fun p => (p.1, ren R p.2))) v h' := by
  unfold lbuildSlice at hb
  split at hb
  case h_2 => cases hb
  rename_i elem hu
  split at hb
  case h_2 => cases hb
  rename_i ie hie
  split at hb
  case h_2 => cases hb
  rename_i z hz
  split at hb
  case isFalse => cases hb
  rename_i hsz
  split at hb
  case isFalse => cases hb
  rename_i hpl
  split at hb
  case h_2 => cases hb
  rename_i cells hf
  simp only [Option.some.injEq, Prod.mk.injEq] at hb
  obtain ⟨rfl, rfl⟩ := hb
  obtain ⟨hzc, hzw⟩ := plainA_ren R _ hpl
  have hparts : ∀ p ∈ parts.toList, wfv R p.2 := fun p h => hp p (by simpa using h)
  have hwf := fill_wf R _ _ _ _ hf hzw hparts
  have hfill := fill_ren R (fun i => some (i * ie.size, ie.size)) parts.toList (tile (len * ie.size) z)
  rw [hzc, hf] at hfill
  simp only [Option.map_some] at hfill
  obtain ⟨R', w', g1, g2, g3, g4⟩ := newRow_ok (P := P) r (c := cells.toList) (by rw [wfL_iff]; rw [wfA_iff] at hwf; intro x hx; exact hwf x (by simpa using hx)) elem
  refine ⟨R', w', ?_, ⟨g2, rfl⟩, g4⟩
  have hcells : (cells.toList.map (ren R)).toArray = renA R cells := by rw [renA_eq]; cases cells; simp
  rw [hcells] at g1
  have hn : ¬ len * ie.size > 2 ^ 24 := by
    have : (2 : Nat) ^ 24 = 16777216 := rfl
    omega
  have hpl2 : (parts.map fun p => (p.1, ren R p.2)).toList = parts.toList.map fun p => (p.1, ren R p.2) := by simp
  simp only [Instr.buildSlice, Sem.run_bind, run_underlying hu w, Result.andThen_ok, sizeOf, typeInfo, run_program, hie, Sem.run_pure, if_neg hn]
  by_cases hn0 : len * ie.size = 0
  · simp only [tile, zcs, if_pos hn0] at hfill
    rw [if_pos hn0]
    simp only [Sem.run_bind, Sem.run_pure, Result.andThen_ok, hpl2, hfill, g1, ren, g3, Nat.add_zero]
  · simp only [tile, zcs, if_neg hn0] at hfill
    rw [if_neg hn0]
    simp only [Sem.run_bind, zeroValue, typeInfo, run_program, hie, hz, Sem.run_pure, Result.andThen_ok, hpl2, hfill, g1, ren, g3, Nat.add_zero]

/-! ### Addresses -/
def lfieldAddr (P : Program) (t : TypeId) (x : Value) (f : Nat) : Option Value :=
  match P.underlying t with
  | some (.struct fields) =>
    match fields[f]? with
    | some fd =>
      match x, P.info? fd.type with
      | .pointer (some a), some i => if i.size = 0 then none else some (.pointer (some (a.add fd.offset)))
      | _, _ => none
    | none => none
  | _ => none
theorem add_ren (R : Map) (a : Addr) (n : Nat) (h : a.spot = none) : (⟨R.b a.block, a.off, a.spot⟩ : Addr).add n = ⟨R.b (a.add n).block, (a.add n).off, (a.add n).spot⟩ ∧ (a.add n).spot = none ∧ (a.add n).block = a.block := by
  unfold Addr.add
  split <;> simp [h]
theorem lfieldAddr_ok {P : Program} {R : Map} {w : World} {t : TypeId} {x v : Value} {f : Nat} (hx : wfv R x) (hv : lfieldAddr P t x f = some v) :
    (Instr.fieldAt t (ren R x) f).run P w = .ok (ren R v) w ∧ wfv R v := by
  unfold lfieldAddr at hv
  split at hv
  case h_2 => cases hv
  rename_i fields hu
  split at hv
  case h_2 => cases hv
  rename_i fd hfd
  split at hv
  case h_2 => cases hv
  rename_i a i hi
  split at hv
  case isTrue => cases hv
  rename_i hs
  simp only [Option.some.injEq] at hv
  subst hv
  simp only [wfv] at hx
  obtain ⟨h1, h2, h3⟩ := add_ren R a fd.offset hx.2
  refine ⟨?_, ?_⟩
  · simp only [Instr.fieldAt, Sem.run_bind, run_underlying hu w, Result.andThen_ok, hfd, Instr.sureAddr, ren, Sem.run_pure, fieldPlace, sizeOf, typeInfo, run_program, hi, if_neg hs, h1]
  · simp only [wfv]; rw [h3]; exact ⟨hx.1, h2⟩

def lindexAddr (P : Program) (t : TypeId) (x ix : Value) : Option Value :=
  match ix with
  | .int _ i =>
    match P.underlying t, x with
    | some (.array len elem), .pointer (some a) =>
      match P.info? elem with
      | some ie => if 0 ≤ i ∧ i < len then some (.pointer (some (a.add (i.toNat * ie.size)))) else none
      | none => none
    | some (.slice elem), .slice (some a) len _ =>
      match P.info? elem with
      | some ie => if 0 ≤ i ∧ i < len then some (.pointer (some (a.add (i.toNat * ie.size)))) else none
      | none => none
    | _, _ => none
  | _ => none
theorem lindexAddr_ok {P : Program} {R : Map} {w : World} {t : TypeId} {x ix v : Value} (hx : wfv R x) (hv : lindexAddr P t x ix = some v) :
    (Instr.indexAt t (ren R x) (ren R ix)).run P w = .ok (ren R v) w ∧ wfv R v := by
  unfold lindexAddr at hv
  split at hv
  case h_2 => cases hv
  rename_i k i
  split at hv
  · rename_i len elem a hu
    split at hv
    case h_2 => cases hv
    rename_i ie hie
    split at hv
    case isFalse => cases hv
    rename_i hb
    simp only [Option.some.injEq] at hv
    subst hv
    simp only [wfv] at hx
    obtain ⟨h1, h2, h3⟩ := add_ren R a (i.toNat * ie.size) hx.2
    refine ⟨?_, ?_⟩
    · simp only [Instr.indexAt, Sem.run_bind, asIntOf, ren, Sem.run_pure, Result.andThen_ok, run_underlying hu w, Instr.sureAddr, if_pos hb, sizeOf, typeInfo, run_program, hie, h1]
    · simp only [wfv]; rw [h3]; exact ⟨hx.1, h2⟩
  · rename_i elem a len cap hu
    split at hv
    case h_2 => cases hv
    rename_i ie hie
    split at hv
    case isFalse => cases hv
    rename_i hb
    simp only [Option.some.injEq] at hv
    subst hv
    simp only [wfv] at hx
    obtain ⟨h1, h2, h3⟩ := add_ren R a (i.toNat * ie.size) hx.2
    refine ⟨?_, ?_⟩
    · simp only [Instr.indexAt, Sem.run_bind, asIntOf, ren, Sem.run_pure, Result.andThen_ok, run_underlying hu w, if_pos hb, sizeOf, typeInfo, run_program, hie, h1]
    · simp only [wfv]; rw [h3]; exact ⟨hx.1, h2⟩
  · cases hv

/-! ### Parts of values -/
def lpart (P : Program) (t : TypeId) (cs : Array Value) (off : Nat) : Option Value :=
  match runP P (isAgg t) with
  | some true => match P.info? t with
    | some i => some (.agg (cs.extract off (off + i.size)))
    | none => none
  | some false => cs[off]?
  | none => none
theorem lpart_ok {P : Program} {R : Map} {w : World} {t : TypeId} {cs : Array Value} {off : Nat} {v : Value} (hw : wfA R cs) (hv : lpart P t cs off = some v) :
    (part t (renA R cs) off).run P w = .ok (ren R v) w ∧ wfv R v := by
  unfold lpart at hv
  rw [wfA_iff] at hw
  split at hv
  · rename_i hagg
    split at hv
    case h_2 => cases hv
    rename_i i hi
    simp only [Option.some.injEq] at hv
    subst hv
    refine ⟨?_, ?_⟩
    · simp only [part, Sem.run_bind, runP_run hagg w, Result.andThen_ok, if_true, sizeOf, typeInfo, run_program, hi, Sem.run_pure, ren, renA_eq]
      congr 2
      simp
    · simp only [wfv, wfA_iff]
      intro x hx
      have hx' : x ∈ (cs.extract off (off + i.size)).toList := Array.mem_toList_iff.2 hx
      rw [Array.toList_extract, List.extract_eq_take_drop] at hx'
      exact hw x (by have := List.mem_of_mem_drop (List.mem_of_mem_take hx'); simpa using this)
  · rename_i hagg
    refine ⟨?_, hw v (Array.mem_of_getElem? hv)⟩
    have : (renA R cs)[off]? = some (ren R v) := by rw [renA_eq]; simp [hv]
    simp only [part, Sem.run_bind, runP_run hagg w, Result.andThen_ok, Bool.false_eq_true, if_false, this, Sem.run_pure]
  · cases hv
def lfield (P : Program) (t : TypeId) (x : Value) (f : Nat) : Option Value :=
  match P.underlying t, x with
  | some (.struct fields), .agg cs =>
    match fields[f]? with
    | some fd => lpart P fd.type cs fd.offset
    | none => none
  | _, _ => none
theorem lfield_ok {P : Program} {R : Map} {w : World} {t : TypeId} {x v : Value} {f : Nat} (hx : wfv R x) (hv : lfield P t x f = some v) :
    (Instr.field t (ren R x) f).run P w = .ok (ren R v) w ∧ wfv R v := by
  unfold lfield at hv
  split at hv
  case h_2 => cases hv
  rename_i fields cs hu
  split at hv
  case h_2 => cases hv
  rename_i fd hfd
  obtain ⟨h1, h2⟩ := lpart_ok (w := w) (R := R) hx hv
  refine ⟨?_, h2⟩
  simp only [Instr.field, Sem.run_bind, run_underlying hu w, Result.andThen_ok, hfd, asAgg, ren, Sem.run_pure, h1]
def lindex (P : Program) (t : TypeId) (x ix : Value) : Option Value :=
  match P.underlying t, x, ix with
  | some (.array len elem), .agg cs, .int _ i =>
    match P.info? elem with
    | some ie => if 0 ≤ i ∧ i < len then lpart P elem cs (i.toNat * ie.size) else none
    | none => none
  | some .string, .string s, .int _ i => if 0 ≤ i then (s.data.toList[i.toNat]?).map fun b => .int .u8 b.toNat else none
  | _, _, _ => none
theorem byte_get (s : ByteArray) (i : Nat) : s[i]? = s.data.toList[i]? := by
  by_cases h : i < s.size
  · rw [getElem?_pos s i h]
    have h' : i < s.data.toList.length := by simpa using h
    rw [List.getElem?_eq_getElem h']
    rfl
  · rw [getElem?_neg s i h]
    have h' : s.data.toList.length ≤ i := by simpa using h
    rw [List.getElem?_eq_none h']
theorem lindex_ok {P : Program} {R : Map} {w : World} {t : TypeId} {x ix v : Value} (hx : wfv R x) (hv : lindex P t x ix = some v) :
    (Instr.index t (ren R x) (ren R ix)).run P w = .ok (ren R v) w ∧ wfv R v := by
  unfold lindex at hv
  split at hv
  · rename_i len elem cs k i hu
    split at hv
    case h_2 => cases hv
    rename_i ie hie
    split at hv
    case isFalse => cases hv
    rename_i hb
    obtain ⟨h1, h2⟩ := lpart_ok (w := w) (R := R) hx hv
    refine ⟨?_, h2⟩
    simp only [Instr.index, Sem.run_bind, asIntOf, ren, Sem.run_pure, Result.andThen_ok, run_underlying hu w, if_pos hb, sizeOf, typeInfo, run_program, hie, h1]
  · rename_i s k i hu
    split at hv
    case isFalse => cases hv
    rename_i hb
    simp only [Option.map_eq_some_iff] at hv
    obtain ⟨b, hb', rfl⟩ := hv
    refine ⟨?_, trivial⟩
    simp only [Instr.index, Sem.run_bind, asIntOf, ren, Sem.run_pure, Result.andThen_ok, run_underlying hu w, if_pos hb, byte_get, hb']
  · cases hv
def lextract (x : Value) (i : Nat) : Option Value :=
  match x with
  | .tuple vs => vs[i]?
  | _ => none
theorem lextract_ok {P : Program} {R : Map} {w : World} {x v : Value} {i : Nat} (hx : wfv R x) (hv : lextract x i = some v) :
    (Instr.extract (ren R x) i).run P w = .ok (ren R v) w ∧ wfv R v := by
  unfold lextract at hv
  split at hv
  case h_2 => cases hv
  rename_i vs
  simp only [wfv, wfA_iff] at hx
  refine ⟨?_, hx v (Array.mem_of_getElem? hv)⟩
  have : (renA R vs)[i]? = some (ren R v) := by rw [renA_eq]; simp [hv]
  simp only [Instr.extract, ren, this, Sem.run_pure]
end
end Go.Proofs.YtedfhallhpkkhaaGreatDoor.X
