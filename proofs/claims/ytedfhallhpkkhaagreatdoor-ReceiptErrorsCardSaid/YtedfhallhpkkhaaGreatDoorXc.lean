/- Operations of the model that read, make or write memory, done on the local heap, each shown to be what the model does on the real one. Any program. -/
import Derived.Test.YtedfhallhpkkhaaGreatDoorXb
import Derived.Deep.MidRow
set_option linter.unusedVariables false
set_option linter.unusedSimpArgs false
namespace Go.Proofs.YtedfhallhpkkhaaGreatDoor.X
open Go
noncomputable section

/-- A computation that asks the program alone. -/
def runP {α : Type} (P : Program) : Sem α → Option α
  | .pure a => some a
  | .program k => runP P (k P)
  | .mark _ k => runP P k
  | _ => none
theorem runP_run {α : Type} {P : Program} {s : Sem α} {a : α} (h : runP P s = some a) (w : World) : s.run P w = .ok a w := by
  induction s with
  | pure b => simp only [runP, Option.some.injEq] at h; subst h; rfl
  | program k ih => simp only [runP] at h; simp only [Sem.run]; exact ih P h
  | mark m k ih => simp only [runP] at h; simp only [Sem.run]; exact ih h
  | _ => simp [runP] at h

/-- s gives what v stands for, and takes the one pair of heaps to the other. -/
def OpOk (P : Program) (R : Map) (h : LH) (w : World) (s : Sem Value) (v : Value) (h' : LH) : Prop :=
  ∃ R' w', s.run P w = .ok (ren R' v) w' ∧ wfv R' v ∧ Goes R h w R' h' w'

def cellsAt (h : LH) (i : Nat) : Option (List Value × Nat) :=
  match h.get i with
  | some (.cells c e) => some (c, e)
  | _ => none
theorem cellsAt_get {h : LH} {i : Nat} {c : List Value} {e : Nat} (hc : cellsAt h i = some (c, e)) : h.get i = some (.cells c e) := by
  unfold cellsAt at hc
  split at hc
  · rename_i c' e' hg
    simp only [Option.some.injEq, Prod.mk.injEq] at hc
    obtain ⟨rfl, rfl⟩ := hc
    exact hg
  · cases hc

/-- What the relation says of a block of cells. -/
theorem HRel.cells {R : Map} {h : LH} {w : World} (r : HRel R h w.heap) {i : Nat} {c : List Value} {e : Nat} (hc : cellsAt h i = some (c, e)) :
    ∃ cs t f, w.heap[R.b i]? = some (.cells cs t f) ∧ c.length + R.d i * e ≤ cs.size ∧ (∀ (k : Nat) (v : Value), c[k]? = some v → cs[k]? = some (ren R v)) ∧
      (∀ k : Nat, k < c.length + R.d i * e → ¬ (f.1 ≤ k ∧ k < f.2)) ∧ (e = 0 → R.d i = 0) ∧ wfL R c :=
  (r.ok i _ (cellsAt_get hc)).2
theorem HRel.cell {R : Map} {h : LH} {w : World} (r : HRel R h w.heap) {i : Nat} {c : List Value} {e : Nat} (hc : cellsAt h i = some (c, e)) {k : Nat} {v : Value} (hk : c[k]? = some v) :
    w.cell? ⟨R.b i, k, none⟩ = some (ren R v) := by
  obtain ⟨cs, t, f, h1, _, h3, _⟩ := r.cells hc
  unfold World.cell?
  simp [h1, h3 k v hk]
theorem HRel.notFrozen {R : Map} {h : LH} {w : World} (r : HRel R h w.heap) {i : Nat} {c : List Value} {e : Nat} (hc : cellsAt h i = some (c, e)) {k : Nat} (hk : k < c.length + R.d i * e) :
    w.frozen? ⟨R.b i, k, none⟩ = false := by
  obtain ⟨cs, t, f, h1, _, _, h4, _⟩ := r.cells hc
  unfold World.frozen?
  simp only [h1]
  have := h4 k hk
  simp only [Bool.and_eq_false_iff, decide_eq_false_iff_not]
  by_cases h5 : f.1 ≤ k
  · exact .inr (fun h6 => this ⟨h5, h6⟩)
  · exact .inl h5
theorem HRel.wf {R : Map} {h : LH} {w : World} (r : HRel R h w.heap) {i : Nat} {c : List Value} {e : Nat} (hc : cellsAt h i = some (c, e)) : wfL R c := by
  obtain ⟨_, _, _, _, _, _, _, _, h6⟩ := r.cells hc
  exact h6

/-! ### Load -/
def lload (P : Program) (h : LH) (t : TypeId) (x : Value) : Option Value :=
  match x with
  | .pointer (some a) =>
    match cellsAt h a.block with
    | some (c, _) =>
      match runP P (isAgg t) with
      | some true =>
        match P.info? t with
        | some i => if a.off + i.size ≤ c.length then some (.agg ⟨(c.drop a.off).take i.size⟩) else none
        | none => none
      | some false => c[a.off]?
      | none => none
    | none => if a.block = 0 then match runP P (isAgg t) with
      | some false => gconst[a.off]?
      | _ => none
      else none
  | _ => none
theorem addr_eta (a : Addr) (h : a.spot = none) : a = ⟨a.block, a.off, none⟩ := by cases a; simp_all
theorem lload_ok {P : Program} {R : Map} {h : LH} {w : World} {t : TypeId} {x v : Value} (r : HRel R h w.heap) (hx : wfv R x) (hv : lload P h t x = some v) :
    (Instr.loadAt t (ren R x)).run P w = .ok (ren R v) w ∧ wfv R v := by
  unfold lload at hv
  split at hv
  case h_2 => cases hv
  rename_i a
  simp only [wfv] at hx
  split at hv
  case h_2 =>
    split at hv
    case isFalse => cases hv
    rename_i h0
    split at hv
    case h_2 => cases hv
    rename_i hagg
    obtain ⟨hp, hw⟩ := plain_ren R v (gconst_plain v (List.mem_of_getElem? hv))
    have hb : R.b 0 = 0 := by simp [Map.b, r.glob.1]
    obtain ⟨cs, ty, f, hH, hcs⟩ := r.glob.2.1
    have hcell : w.cell? ⟨0, a.off, none⟩ = some v := by
      have := hcs _ _ hv
      simp [World.cell?, hH, this]
    refine ⟨?_, hw⟩
    rw [hp]
    simp [ren, h0, hb, hx.2, Instr.loadAt, Instr.sureAddr, loadVar, runP_run hagg w]
    rw [hcell]
  rename_i c e hc
  have hspot : (⟨R.b a.block, a.off, a.spot⟩ : Addr) = ⟨R.b a.block, a.off, none⟩ := by rw [hx.2]
  have hwf := (wfL_iff _ _).1 (r.wf hc)
  split at hv
  · rename_i hagg
    split at hv
    case h_2 => cases hv
    rename_i i hi
    split at hv
    case isFalse => cases hv
    rename_i hle
    simp only [Option.some.injEq] at hv
    subst hv
    have hl : (loadCells ⟨R.b a.block, a.off, none⟩ i.size).run P w = .ok (((c.drop a.off).take i.size).map (ren R)).toArray w := by
      have hlen : (((c.drop a.off).take i.size).map (ren R)).length = i.size := by simp; omega
      have := run_loadCells_list (P := P) w ⟨R.b a.block, a.off, none⟩ (((c.drop a.off).take i.size).map (ren R)) (fun j v hj => by
        rw [Addr.add_mid]
        rw [List.getElem?_map] at hj
        simp only [Option.map_eq_some_iff] at hj
        obtain ⟨u, hu, rfl⟩ := hj
        refine r.cell hc ?_
        rw [List.getElem?_take] at hu
        split at hu
        · rw [List.getElem?_drop] at hu; exact hu
        · cases hu)
      rw [hlen] at this
      exact this
    refine ⟨?_, ?_⟩
    · simp only [ren, hspot, Instr.loadAt, Instr.sureAddr, Sem.run_bind, Sem.run_pure, Result.andThen_ok, loadVar, runP_run hagg w, if_true, sizeOf, typeInfo, run_program, hi, hl]
      simp [renA, renL_eq]
    · simp only [wfv, wfA, wfL_iff]
      intro u hu
      exact hwf u (List.mem_of_mem_drop (List.mem_of_mem_take hu))
  · rename_i hagg
    refine ⟨?_, hwf v (List.mem_of_getElem? hv)⟩
    simp [ren, hspot, Instr.loadAt, Instr.sureAddr, loadVar, runP_run hagg w]
    rw [r.cell hc hv]
  · cases hv

/-! ### Store -/
def setRange : List Value → Nat → List Value → List Value
  | c, _, [] => c
  | [], _, _ => []
  | _ :: c, 0, v :: vs => v :: setRange c 0 vs
  | x :: c, o + 1, v :: vs => x :: setRange c o (v :: vs)
theorem setRange_length : ∀ (c : List Value) (o : Nat) (vs : List Value), (setRange c o vs).length = c.length
  | c, _, [] => by cases c <;> simp [setRange]
  | [], _, _ :: _ => by simp [setRange]
  | _ :: c, 0, v :: vs => by simp [setRange, setRange_length c 0 vs]
  | x :: c, o + 1, v :: vs => by simp [setRange, setRange_length c o (v :: vs)]
theorem setRange_get : ∀ (c : List Value) (o : Nat) (vs : List Value), o + vs.length ≤ c.length → ∀ k : Nat, (setRange c o vs)[k]? = if o ≤ k ∧ k < o + vs.length then vs[k - o]? else c[k]?
  | c, o, [], _, k => by
    have : ¬ (o ≤ k ∧ k < o + ([] : List Value).length) := by simp
    rw [if_neg this]
    cases c <;> simp [setRange]
  | [], o, v :: vs, h, k => by simp at h
  | x :: c, 0, v :: vs, h, k => by
    simp only [List.length_cons] at h
    have ih := setRange_get c 0 vs (by omega)
    cases k with
    | zero => simp [setRange]
    | succ k =>
      simp only [setRange, List.getElem?_cons_succ, ih k, List.length_cons]
      by_cases hk : k < vs.length
      · rw [if_pos ⟨by omega, by omega⟩, if_pos ⟨by omega, by omega⟩]; simp
      · rw [if_neg (by omega), if_neg (by omega)]
  | x :: c, o + 1, v :: vs, h, k => by
    simp only [List.length_cons] at h
    have ih := setRange_get c o (v :: vs) (by simp; omega)
    cases k with
    | zero => rw [if_neg (by omega)]; simp [setRange]
    | succ k =>
      simp only [setRange, List.getElem?_cons_succ, ih k, List.length_cons]
      by_cases hk : o ≤ k ∧ k < o + (vs.length + 1)
      · rw [if_pos hk, if_pos (by omega)]; congr 1; omega
      · rw [if_neg hk, if_neg (by omega)]
theorem setRange_mem : ∀ (c : List Value) (o : Nat) (vs : List Value) (x : Value), x ∈ setRange c o vs → x ∈ c ∨ x ∈ vs
  | c, _, [], x, h => by cases c <;> simp_all [setRange]
  | [], _, _ :: _, x, h => by simp [setRange] at h
  | y :: c, 0, v :: vs, x, h => by
    simp only [setRange, List.mem_cons] at h
    rcases h with rfl | h
    · exact .inr (by simp)
    · rcases setRange_mem c 0 vs x h with h | h
      · exact .inl (by simp [h])
      · exact .inr (by simp [h])
  | y :: c, o + 1, v :: vs, x, h => by
    simp only [setRange, List.mem_cons] at h
    rcases h with rfl | h
    · exact .inl (by simp)
    · rcases setRange_mem c o (v :: vs) x h with h | h
      · exact .inl (by simp [h])
      · exact .inr h

/-- What the model's stores of a row of cells leave. -/
theorem setCells_heap (b : Nat) : ∀ (vs : List Value) (o : Nat) (w : World) (cs : Array Value) (t : TypeId) (f : Nat × Nat), w.heap[b]? = some (.cells cs t f) → o + vs.length ≤ cs.size →
    ∃ cs', (w.setCells b o vs).heap[b]? = some (.cells cs' t f) ∧ cs'.size = cs.size ∧ (∀ k : Nat, cs'[k]? = if o ≤ k ∧ k < o + vs.length then vs[k - o]? else cs[k]?) ∧
      (∀ k, k ≠ b → (w.setCells b o vs).heap[k]? = w.heap[k]?) ∧ (w.setCells b o vs).heap.size = w.heap.size ∧
      (w.setCells b o vs) = { w with heap := (w.setCells b o vs).heap }
  | [], o, w, cs, t, f, h, _ => ⟨cs, h, rfl, fun k => by rw [if_neg (by simp)], fun _ _ => rfl, rfl, rfl⟩
  | v :: vs, o, w, cs, t, f, h, hle => by
    simp only [List.length_cons] at hle
    have h1 : (w.setCell ⟨b, o, none⟩ v).heap[b]? = some (.cells (cs.setIfInBounds o v) t f) := by
      simp [World.setCell, Array.getElem?_modify, h]
    obtain ⟨cs', g1, g2, g3, g4, g5, g6⟩ := setCells_heap b vs (o + 1) (w.setCell ⟨b, o, none⟩ v) _ t f h1 (by simp; omega)
    refine ⟨cs', g1, by simpa using g2, fun k => ?_, fun k hk => ?_, ?_, ?_⟩
    · rw [g3 k]
      simp only [List.length_cons]
      by_cases h2 : o + 1 ≤ k ∧ k < o + 1 + vs.length
      · rw [if_pos h2, if_pos (by omega)]
        rw [show k - o = (k - (o + 1)) + 1 by omega]
        simp
      · rw [if_neg h2]
        by_cases h3 : k = o
        · subst h3
          rw [if_pos (by omega)]
          have : k < cs.size := by omega
          simp [this]
        · rw [if_neg (by omega), Array.getElem?_setIfInBounds_ne (by omega)]
    · show ((w.setCell ⟨b, o, none⟩ v).setCells b (o + 1) vs).heap[k]? = _
      rw [g4 k hk]
      simp only [World.setCell, Array.getElem?_modify]
      rw [if_neg (fun e => hk e.symm)]
    · show ((w.setCell ⟨b, o, none⟩ v).setCells b (o + 1) vs).heap.size = _
      rw [g5]; simp [World.setCell]
    · show ((w.setCell ⟨b, o, none⟩ v).setCells b (o + 1) vs) = _
      rw [g6]; rfl

def oneCell (v : Value) : Bool := match v with | .agg _ | .tuple _ => false | _ => true
theorem oneCell_ren (R : Map) (v : Value) : (ren R v).oneCell' = oneCell v := by
  cases v with
  | pointer a => cases a <;> rfl
  | slice a l c => cases a <;> rfl
  | map a => cases a <;> rfl
  | _ => rfl
theorem cells_ren (R : Map) (v : Value) : (ren R v).cells = renA R v.cells := by
  cases v with
  | pointer a => cases a <;> rfl
  | slice a l c => cases a <;> rfl
  | map a => cases a <;> rfl
  | agg cs => rfl
  | _ => rfl
theorem wfv_cells {R : Map} {v : Value} (h : wfv R v) : wfL R v.cells.toList := by
  cases v with
  | agg cs => cases cs; exact h
  | _ => exact ⟨h, trivial⟩

/-- The row of cells that is written lies in the local block (or in the room behind it). -/
theorem storeRow_ok {P : Program} {R : Map} {h : LH} {w : World} {i o : Nat} {c : List Value} {e : Nat} {vs : List Value} (r : HRel R h w.heap) (hc : cellsAt h i = some (c, e))
    (hle : o + vs.length ≤ c.length) (h1 : vs.all oneCell = true) (hw : wfL R vs) :
    ∃ w', (storeCells ⟨R.b i, o, none⟩ (vs.map (ren R))).run P w = .ok () w' ∧ Goes R h w R (h.put i (.cells (setRange c o vs) e)) w' := by
  obtain ⟨cs, t, f, g1, g2, g3, g4, g5, g6⟩ := r.cells hc
  have hrun := run_storeCells_cells (P := P) (R.b i) o (vs.map (ren R)) 0 w
    (fun j hj => by
      simp only [List.length_map] at hj
      have hlt : o + 0 + j < c.length := by omega
      rw [r.cell hc (List.getElem?_eq_getElem hlt)]; rfl)
    (fun j hj => by simp only [List.length_map] at hj; exact r.notFrozen hc (by omega))
    (fun v hv => by
      obtain ⟨u, hu, rfl⟩ := List.mem_map.1 hv
      rw [oneCell_ren]
      exact List.all_eq_true.1 h1 u hu)
  simp only [Nat.add_zero] at hrun
  obtain ⟨cs', k1, k2, k3, k4, k5, k6⟩ := setCells_heap (R.b i) (vs.map (ren R)) o w cs t f g1 (by simp; omega)
  refine ⟨_, hrun, ?_⟩
  rw [k6]
  refine Goes.put r (cellsAt_get hc) k5 ?_ k4
  refine ⟨cs', t, f, k1, by rw [setRange_length, k2]; exact g2, fun k v hk => ?_, by rw [setRange_length]; exact g4, g5, ?_⟩
  · rw [setRange_get c o vs hle k] at hk
    rw [k3 k]
    simp only [List.length_map]
    by_cases h2 : o ≤ k ∧ k < o + vs.length
    · rw [if_pos h2] at hk ⊢
      rw [List.getElem?_map, hk]; rfl
    · rw [if_neg h2] at hk ⊢
      exact g3 k v hk
  · rw [wfL_iff] at hw g6 ⊢
    intro x hx
    rcases setRange_mem c o vs x hx with hx | hx
    · exact g6 x hx
    · exact hw x hx

def lstore (P : Program) (h : LH) (t : TypeId) (x v : Value) : Option LH :=
  match x with
  | .pointer (some a) =>
    match cellsAt h a.block with
    | some (c, e) =>
      match P.info? t with
      | some i =>
        if v.cells.size = i.size ∧ a.off + i.size ≤ c.length ∧ v.cells.toList.all oneCell = true then some (h.put a.block (.cells (setRange c a.off v.cells.toList) e)) else none
      | none => none
    | none => none
  | _ => none
theorem lstore_ok {P : Program} {R : Map} {h h' : LH} {w : World} {t : TypeId} {x v : Value} (r : HRel R h w.heap) (hx : wfv R x) (hv : wfv R v) (hs : lstore P h t x v = some h') :
    ∃ w', (Instr.storeAt t (ren R x) (ren R v)).run P w = .ok () w' ∧ Goes R h w R h' w' := by
  unfold lstore at hs
  split at hs
  case h_2 => cases hs
  rename_i a
  simp only [wfv] at hx
  split at hs
  case h_2 => cases hs
  rename_i c e hc
  split at hs
  case h_2 => cases hs
  rename_i i hi
  split at hs
  case isFalse => cases hs
  rename_i hcond
  simp only [Option.some.injEq] at hs
  subst hs
  obtain ⟨h1, h2, h3⟩ := hcond
  have hspot : (⟨R.b a.block, a.off, a.spot⟩ : Addr) = ⟨R.b a.block, a.off, none⟩ := by rw [hx.2]
  obtain ⟨w', hr, hg⟩ := storeRow_ok (P := P) r hc (o := a.off) (vs := v.cells.toList) (by simp; omega) h3 (wfv_cells hv)
  refine ⟨w', ?_, hg⟩
  have hcells : (ren R v).cells.toList = v.cells.toList.map (ren R) := by rw [cells_ren, renA_eq]; simp
  have hsize : (ren R v).cells.size = i.size := by rw [cells_ren, renA_eq]; simpa using h1
  simp only [ren, hspot, Instr.storeAt, Instr.sureAddr, Sem.run_bind, Sem.run_pure, Result.andThen_ok, storeVar, sizeOf, typeInfo, run_program, hi, hsize, hcells]
  simp [hr]

/-! ### New blocks -/
theorem newRow_ok {P : Program} {R : Map} {h : LH} {w : World} {c : List Value} (r : HRel R h w.heap) (hw : wfL R c) (elem : TypeId) :
    ∃ R' w', (newRow elem (c.map (ren R)).toArray).run P w = .ok ⟨R'.b h.next, 0, none⟩ w' ∧ (R' h.next).isSome = true ∧ R'.d h.next = 0 ∧ Goes R h w R' (h.add (.cells c 0)) w' := by
  refine ⟨R.put h.next w.heap.size 0, { w with heap := w.heap.push (.cells (c.map (ren R)).toArray elem) }, ?_, Map.put_isSome _ _ _ _, Map.put_d _ _ _ _, ?_⟩
  · simp [newRow, Map.put_b]
  · refine Goes.add r ?_
    have hext : R.ext (R.put h.next w.heap.size 0) := Map.put_ext (r.fresh _ (Nat.le_refl _))
    refine ⟨(c.map (ren R)).toArray, elem, (0, 0), rfl, by simp, fun k v hk => ?_, fun k _ hk => by simp at hk, fun _ => Map.put_d _ _ _ _, (renL_ext hext c hw).2⟩
    rw [(ren_ext hext v ((wfL_iff _ _).1 hw v (List.mem_of_getElem? hk))).1]
    simp [hk]

def lnew (h : LH) (c : List Value) : Value × LH := (.pointer (some ⟨h.next, 0, none⟩), h.add (.cells c 0))

def lalloc (P : Program) (h : LH) (t : TypeId) : Option (Value × LH) :=
  match P.info? t with
  | some i => match i.zero with
    | some z => if plain z = true then some (lnew h z.cells.toList) else none
    | none => none
  | none => none
theorem plain_cells {v : Value} (h : plain v = true) : plainL v.cells.toList = true := by
  cases v with
  | agg cs => cases cs; exact h
  | _ => simpa [Value.cells, plainL] using h
theorem newVar_ok {P : Program} {R : Map} {h : LH} {w : World} {v : Value} (r : HRel R h w.heap) (hv : wfv R v) (t : TypeId) :
    ∃ R' w', (newVar t (ren R v)).run P w = .ok ⟨R'.b h.next, 0, none⟩ w' ∧ (R' h.next).isSome = true ∧ Goes R h w R' (h.add (.cells v.cells.toList 0)) w' := by
  obtain ⟨R', w', h1, h2, _, h3⟩ := newRow_ok (P := P) r (wfv_cells hv) t
  refine ⟨R', w', ?_, h2, h3⟩
  rw [← h1]
  unfold newVar
  rw [cells_ren, renA_eq]
  congr 2
  cases hc : v.cells
  simp
theorem lalloc_ok {P : Program} {R : Map} {h h' : LH} {w : World} {t : TypeId} {v : Value} (r : HRel R h w.heap) (ha : lalloc P h t = some (v, h')) (old : Value) :
    OpOk P R h w (Instr.alloc t true old) v h' := by
  unfold lalloc at ha
  split at ha
  case h_2 => cases ha
  rename_i i hi
  split at ha
  case h_2 => cases ha
  rename_i z hz
  split at ha
  case isFalse => cases ha
  rename_i hp
  simp only [Option.some.injEq, lnew, Prod.mk.injEq] at ha
  obtain ⟨rfl, rfl⟩ := ha
  obtain ⟨h1, h2⟩ := plain_ren R z hp
  obtain ⟨R', w', g1, g2, g3⟩ := newVar_ok (P := P) r h2 t
  rw [h1] at g1
  refine ⟨R', w', ?_, ⟨g2, rfl⟩, g3⟩
  simp [Instr.alloc, zeroValue, typeInfo, hi, hz, g1, ren]
theorem lbox_ok {P : Program} {R : Map} {h : LH} {w : World} {t : TypeId} {v : Value} (r : HRel R h w.heap) (hv : wfv R v) :
    OpOk P R h w (Instr.box t (ren R v)) (lnew h v.cells.toList).1 (lnew h v.cells.toList).2 := by
  obtain ⟨R', w', g1, g2, g3⟩ := newVar_ok (P := P) r hv t
  refine ⟨R', w', ?_, ⟨g2, rfl⟩, g3⟩
  simp [Instr.box, g1, lnew, ren]
end
end Go.Proofs.YtedfhallhpkkhaaGreatDoor.X
