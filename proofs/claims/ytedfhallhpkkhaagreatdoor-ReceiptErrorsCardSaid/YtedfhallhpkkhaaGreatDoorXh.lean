/- Writing maps, lengths, comparisons with nil, on the local heap. Any program. -/
import Derived.Test.YtedfhallhpkkhaaGreatDoorXg
set_option linter.unusedVariables false
set_option linter.unusedSimpArgs false
namespace Go.Proofs.YtedfhallhpkkhaaGreatDoor.X
open Go
noncomputable section

theorem map_modify (R : Map) (es : List MapEntry) (i : Nat) (f f' : MapEntry → MapEntry) (hf : ∀ e ∈ es, renE R (f e) = f' (renE R e)) :
    (es.map (renE R)).toArray.modify i f' = ((es.modify i f).map (renE R)).toArray := by
  apply Array.ext_getElem?
  intro k
  simp only [Array.getElem?_modify, List.getElem?_toArray, List.getElem?_map, List.getElem?_modify]
  by_cases h : i = k
  · subst h
    simp only [if_true]
    cases hk : es[i]? with
    | none => rfl
    | some e => simp [hf e (List.mem_of_getElem? hk)]
  · simp [if_neg h]
theorem mem_modify {es : List MapEntry} {i : Nat} {f : MapEntry → MapEntry} {x : MapEntry} (h : x ∈ es.modify i f) : x ∈ es ∨ ∃ e ∈ es, x = f e := by
  obtain ⟨k, hk⟩ := List.mem_iff_getElem?.1 h
  rw [List.getElem?_modify] at hk
  cases he : es[k]? with
  | none => rw [he] at hk; simp at hk
  | some e =>
    rw [he] at hk
    by_cases hik : i = k
    · simp [hik] at hk; exact .inr ⟨e, List.mem_of_getElem? he, hk.symm⟩
    · simp [hik] at hk; exact .inl (hk ▸ List.mem_of_getElem? he)

/-- Where a key is in a local map: none: it is not there. -/
def lfind (P : Program) (kt : TypeId) (k : Value) (es : List MapEntry) : Option (Option (Nat × Value)) :=
  if plain k = true ∧ es.all (fun e => plain e.key) = true then
    match runP P (Instr.checkKey false 10000 kt k) with
    | some _ => runP P (Instr.findKey kt k es)
    | none => none
  else none
def lstays (P : Program) (es : List MapEntry) (i : Nat) (k : Value) : Option Value :=
  match runP P (Instr.keyThatStays (((es[i]?).map (·.key)).getD k) k) with
  | some k' => if plain k' = true then some k' else none
  | none => none
theorem key_at (R : Map) {es : List MapEntry} (hp : ∀ e ∈ es, plain e.key = true) (i : Nat) (k : Value) :
    ((((es.map (renE R)).toArray)[i]?).map (·.key)).getD k = ((es[i]?).map (·.key)).getD k := by
  simp only [List.getElem?_toArray, List.getElem?_map]
  cases h : es[i]? with
  | none => rfl
  | some e => simp [renE, (plain_ren R _ (hp e (List.mem_of_getElem? h))).1]
def lmapUpdate (P : Program) (h : LH) (t : TypeId) (m k v : Value) : Option LH :=
  match P.underlying t, m with
  | some (.map kt _), .map (some r) =>
    match mapAt h r with
    | some (es, clk) =>
      match lfind P kt k es with
      | some (some (i, _)) =>
        match lstays P es i k with
        | some k' => some (h.put r (.map (es.modify i fun e => { e with key := k', val := v }) clk))
        | none => none
      | some none => some (h.put r (.map (es ++ [{ key := k, val := v, born := clk }]) (clk + 1)))
      | none => none
    | none => none
  | _, _ => none
theorem lmapUpdate_ok {P : Program} {R : Map} {h h' : LH} {w : World} {t : TypeId} {m k v : Value} (r : HRel R h w.heap) (hwv : wfv R v) (hv : lmapUpdate P h t m k v = some h') :
    ∃ w', (Instr.mapUpdate t (ren R m) (ren R k) (ren R v)).run P w = .ok () w' ∧ Goes R h w R h' w' := by
  unfold lmapUpdate at hv
  split at hv
  case h_2 => cases hv
  rename_i kt elem i hu
  split at hv
  case h_2 => cases hv
  rename_i es clk hm
  obtain ⟨hget, hwf⟩ := getMap_ok (P := P) r hm
  have hheap : w.heap[R.b i]? = some (.map (es.map (renE R)).toArray clk) := (r.ok i _ (mapAt_get hm)).2.1
  cases hl : lfind P kt k es with
  | none => rw [hl] at hv; cases hv
  | some x =>
    rw [hl] at hv
    unfold lfind at hl
    split at hl
    case isFalse => cases hl
    rename_i hp
    split at hl
    case h_2 => cases hl
    rename_i u hck
    have hk := (plain_ren R k hp.1)
    have hpk : ∀ e ∈ es, plain e.key = true := List.all_eq_true.1 hp.2
    have hf := findKey_ren R w hpk hl
    cases x with
    | none =>
      simp only [Option.some.injEq] at hv
      subst hv
      obtain ⟨w', hr, hg⟩ := setObj_ok (P := P) r (mapAt_get hm) hheap (fun _ _ _ e => by cases e)
        (o' := .map (es ++ [{ key := k, val := v, born := clk }]) (clk + 1)) (x' := .map ((es.map (renE R)).toArray.push { key := k, val := ren R v, born := clk }) (clk + 1))
        ⟨by simp [renE, hk.1], fun e he => by
          rw [List.mem_append] at he
          rcases he with he | he
          · exact hwf e he
          · simp only [List.mem_singleton] at he; subst he; exact ⟨hk.2, hwv⟩⟩
      refine ⟨w', ?_, hg⟩
      simp only [Instr.mapUpdate, ren, Sem.run_bind, run_underlying hu w, Result.andThen_ok, hget, hk.1, runP_run hck w, hf, renHit, Option.map_none, hr]
    | some p =>
      obtain ⟨j, v0⟩ := p
      simp only at hv
      split at hv
      case h_2 => cases hv
      rename_i k' hst
      simp only [Option.some.injEq] at hv
      subst hv
      unfold lstays at hst
      split at hst
      case h_2 => cases hst
      rename_i k'' hst'
      split at hst
      case isFalse => cases hst
      rename_i hpk'
      simp only [Option.some.injEq] at hst
      subst hst
      have hk' := plain_ren R k'' hpk'
      obtain ⟨w', hr, hg⟩ := setObj_ok (P := P) r (mapAt_get hm) hheap (fun _ _ _ e => by cases e)
        (o' := .map (es.modify j fun e => { e with key := k'', val := v }) clk) (x' := .map ((es.map (renE R)).toArray.modify j fun e => { e with key := k'', val := ren R v }) clk)
        ⟨by rw [map_modify R es j (fun e => { e with key := k'', val := v })]; intro e _; simp [renE, hk'.1], fun e he => by
          rcases mem_modify he with he | ⟨e', he', rfl⟩
          · exact hwf e he
          · exact ⟨hk'.2, hwv⟩⟩
      refine ⟨w', ?_, hg⟩
      simp only [Instr.mapUpdate, ren, Sem.run_bind, run_underlying hu w, Result.andThen_ok, hget, hk.1, runP_run hck w, hf, renHit, Option.map_some, key_at R hpk, runP_run hst' w, hr]
def lmapEntry (P : Program) (h : LH) (t : TypeId) (m k : Value) : Option (Value × LH) :=
  match P.underlying t, m with
  | some (.map kt elem), .map (some r) =>
    match mapAt h r with
    | some (es, clk) =>
      match lfind P kt k es with
      | some (some (i, v)) =>
        match lstays P es i k with
        | some k' => some (.tuple #[v, goInt (((es[i]?).map (·.born)).getD 0)], h.put r (.map (es.modify i fun e => { e with key := k' }) clk))
        | none => none
      | some none =>
        match P.info? elem with
        | some ie => match ie.zero with
          | some z => if plain z = true then some (.tuple #[z, goInt clk], h.put r (.map (es ++ [{ key := k, val := z, born := clk }]) (clk + 1))) else none
          | none => none
        | none => none
      | none => none
    | none => none
  | _, _ => none
theorem lmapEntry_ok {P : Program} {R : Map} {h h' : LH} {w : World} {t : TypeId} {m k v : Value} (r : HRel R h w.heap) (hv : lmapEntry P h t m k = some (v, h')) :
    OpOk P R h w (Instr.mapEntry t (ren R m) (ren R k)) v h' := by
  unfold lmapEntry at hv
  split at hv
  case h_2 => cases hv
  rename_i kt elem i hu
  split at hv
  case h_2 => cases hv
  rename_i es clk hm
  obtain ⟨hget, hwf⟩ := getMap_ok (P := P) r hm
  have hheap : w.heap[R.b i]? = some (.map (es.map (renE R)).toArray clk) := (r.ok i _ (mapAt_get hm)).2.1
  cases hl : lfind P kt k es with
  | none => rw [hl] at hv; cases hv
  | some x =>
    rw [hl] at hv
    unfold lfind at hl
    split at hl
    case isFalse => cases hl
    rename_i hp
    split at hl
    case h_2 => cases hl
    rename_i u hck
    have hk := (plain_ren R k hp.1)
    have hpk : ∀ e ∈ es, plain e.key = true := List.all_eq_true.1 hp.2
    have hf := findKey_ren R w hpk hl
    cases x with
    | none =>
      simp only at hv
      split at hv
      case h_2 => cases hv
      rename_i ie hie
      split at hv
      case h_2 => cases hv
      rename_i z hz
      split at hv
      case isFalse => cases hv
      rename_i hpz
      have hzr := plain_ren R z hpz
      simp only [Option.some.injEq, Prod.mk.injEq] at hv
      obtain ⟨rfl, rfl⟩ := hv
      obtain ⟨w', hr, hg⟩ := setObj_ok (P := P) r (mapAt_get hm) hheap (fun _ _ _ e => by cases e)
        (o' := .map (es ++ [{ key := k, val := z, born := clk }]) (clk + 1)) (x' := .map ((es.map (renE R)).toArray.push { key := k, val := z, born := clk }) (clk + 1))
        ⟨by simp [renE, hk.1, hzr.1], fun e he => by
          rw [List.mem_append] at he
          rcases he with he | he
          · exact hwf e he
          · simp only [List.mem_singleton] at he; subst he; exact ⟨hk.2, hzr.2⟩⟩
      refine ⟨R, w', ?_, ⟨hzr.2, trivial, trivial⟩, hg⟩
      simp only [Instr.mapEntry, ren, Sem.run_bind, run_underlying hu w, Result.andThen_ok, hget, hk.1, runP_run hck w, hf, renHit, Option.map_none, zeroValue, typeInfo, run_program, hie, Sem.run_pure, hz, hr, renA, renL, hzr.1, goInt]
    | some p =>
      obtain ⟨j, v0⟩ := p
      simp only at hv
      split at hv
      case h_2 => cases hv
      rename_i k' hst
      simp only [Option.some.injEq, Prod.mk.injEq] at hv
      obtain ⟨rfl, rfl⟩ := hv
      unfold lstays at hst
      split at hst
      case h_2 => cases hst
      rename_i k'' hst'
      split at hst
      case isFalse => cases hst
      rename_i hpk'
      simp only [Option.some.injEq] at hst
      subst hst
      have hk' := plain_ren R k'' hpk'
      obtain ⟨e0, he0, hev⟩ := findKey_val hl
      have hborn : ((((es.map (renE R)).toArray)[j]?).map (fun x => (x.born : Int))).getD 0 = ((es[j]?).map (fun x => (x.born : Int))).getD 0 := by
        simp only [List.getElem?_toArray, List.getElem?_map]
        cases es[j]? <;> rfl
      obtain ⟨w', hr, hg⟩ := setObj_ok (P := P) r (mapAt_get hm) hheap (fun _ _ _ e => by cases e)
        (o' := .map (es.modify j fun e => { e with key := k'' }) clk) (x' := .map ((es.map (renE R)).toArray.modify j fun e => { e with key := k'' }) clk)
        ⟨by rw [map_modify R es j (fun e => { e with key := k'' })]; intro e _; simp [renE, hk'.1], fun e he => by
          rcases mem_modify he with he | ⟨e', he', rfl⟩
          · exact hwf e he
          · exact ⟨hk'.2, (hwf e' he').2⟩⟩
      refine ⟨R, w', ?_, ⟨hev ▸ (hwf e0 he0).2, trivial, trivial⟩, hg⟩
      simp only [Instr.mapEntry, ren, Sem.run_bind, run_underlying hu w, Result.andThen_ok, hget, hk.1, runP_run hck w, hf, renHit, Option.map_some, key_at R hpk, runP_run hst' w, hr, hborn, Sem.run_pure, renA, renL, goInt]
def lentryStore (h : LH) (m s v : Value) : Option LH :=
  match m, s with
  | .map (some r), .int _ born =>
    match mapAt h r with
    | some (es, clk) =>
      match es.findIdx? (fun e => (e.born : Int) == born) with
      | some i => some (h.put r (.map (es.modify i fun e => { e with val := v }) clk))
      | none => none
    | none => none
  | _, _ => none
theorem lentryStore_ok {P : Program} {R : Map} {h h' : LH} {w : World} {t : TypeId} {m s v : Value} (r : HRel R h w.heap) (hwv : wfv R v) (hv : lentryStore h m s v = some h') :
    ∃ w', (Instr.entryStore t (ren R m) (ren R s) (ren R v)).run P w = .ok () w' ∧ Goes R h w R h' w' := by
  unfold lentryStore at hv
  split at hv
  case h_2 => cases hv
  rename_i i k born
  split at hv
  case h_2 => cases hv
  rename_i es clk hm
  split at hv
  case h_2 => cases hv
  rename_i j hj
  simp only [Option.some.injEq] at hv
  subst hv
  obtain ⟨hget, hwf⟩ := getMap_ok (P := P) r hm
  have hheap : w.heap[R.b i]? = some (.map (es.map (renE R)).toArray clk) := (r.ok i _ (mapAt_get hm)).2.1
  obtain ⟨w', hr, hg⟩ := setObj_ok (P := P) r (mapAt_get hm) hheap (fun _ _ _ e => by cases e)
    (o' := .map (es.modify j fun e => { e with val := v }) clk) (x' := .map ((es.map (renE R)).toArray.modify j fun e => { e with val := ren R v }) clk)
    ⟨by rw [map_modify R es j (fun e => { e with val := v })]; intro e _; rfl, fun e he => by
      rcases mem_modify he with he | ⟨e', he', rfl⟩
      · exact hwf e he
      · exact ⟨(hwf e' he').1, hwv⟩⟩
  refine ⟨w', ?_, hg⟩
  have hidx : (es.map (renE R)).toArray.findIdx? (fun e => (e.born : Int) == born) = some j := by
    rw [List.findIdx?_toArray, List.findIdx?_map]
    exact hj
  simp only [Instr.entryStore, ren, Sem.run_bind, hget, Result.andThen_ok, asInt, asIntOf, Sem.run_pure, hidx, hr]

/-! ### Lengths, nil -/
def llen (P : Program) (h : LH) (t : TypeId) (x : Value) : Option Value :=
  match P.underlying t, x with
  | some (.slice _), .slice _ n _ => some (goInt n)
  | some .string, .string s => some (goInt s.size)
  | some (.map _ _), .map (some r) => (mapAt h r).map fun p => goInt p.1.length
  | _, _ => none
theorem llen_ok {P : Program} {R : Map} {h : LH} {w : World} {ts : Array TypeId} {t type : TypeId} {x v : Value} {args : Array Value} (r : HRel R h w.heap) (ht : ts[0]? = some t) (ha : args[0]? = some x) (hv : llen P h t x = some v) :
    (Builtin.len_ ts type (renA R args)).run P w = .ok (ren R v) w ∧ wfv R v := by
  have h0 : (renA R args)[0]? = some (ren R x) := by rw [renA_eq]; simp [ha]
  unfold llen at hv
  split at hv
  · rename_i e a n c hu
    simp only [Option.some.injEq] at hv
    subst hv
    refine ⟨?_, trivial⟩
    cases a <;> simp only [ren] at h0 <;> simp only [Builtin.len_, ht, h0, Sem.run_bind, run_underlying hu w, Result.andThen_ok, Sem.run_pure, goInt, ren]
  · rename_i s hu
    simp only [Option.some.injEq] at hv
    subst hv
    refine ⟨?_, trivial⟩
    simp only [ren] at h0
    simp only [Builtin.len_, ht, h0, Sem.run_bind, run_underlying hu w, Result.andThen_ok, Sem.run_pure, goInt, ren]
  · rename_i k e i hu
    simp only [Option.map_eq_some_iff] at hv
    obtain ⟨⟨es, c⟩, hm, rfl⟩ := hv
    refine ⟨?_, trivial⟩
    simp only [ren] at h0
    simp only [Builtin.len_, ht, h0, Sem.run_bind, run_underlying hu w, Result.andThen_ok, (getMap_ok (P := P) r hm).1, Sem.run_pure, goInt, ren, List.size_toArray, List.length_map]
  · cases hv

def lnilEq : TypeDesc → Value → Value → Option Bool
  | .pointer _, .pointer none, .pointer b => some b.isNone
  | .pointer _, .pointer (some _), .pointer none => some false
  | .slice _, .slice none _ _, .slice b _ _ => some b.isNone
  | .slice _, .slice (some _) _ _, .slice none _ _ => some false
  | .map _ _, .map none, .map b => some b.isNone
  | .map _ _, .map (some _), .map none => some false
  | .func _ _ _, .nilFunc, .nilFunc => some true
  | .func _ _ _, .func _ _ _, .nilFunc => some false
  | .func _ _ _, .nilFunc, .func _ _ _ => some false
  | _, _, _ => none
theorem lnilEq_at {P : Program} {R : Map} {w : World} {t : TypeId} {dd : TypeDesc} {x y : Value} {b : Bool} (d : Nat) (hu : P.underlying t = some dd) (hv : lnilEq dd x y = some b) :
    (Op.equalIn (d + 1) t (ren R x) (ren R y)).run P w = .ok b w := by
  unfold lnilEq at hv
  split at hv
  all_goals (first | (simp only [Option.some.injEq] at hv; subst hv) | cases hv)
  all_goals
    simp only [Op.equalIn, Sem.run_bind, run_underlying hu w, Result.andThen_ok]
  · rename_i e b
    cases b <;> rfl
  · rfl
  · rename_i e l c b l' c'
    cases b <;> rfl
  · rfl
  · rename_i e e' b
    cases b <;> rfl
  · rfl
  · rfl
  · rfl
  · rfl
theorem lnilEq_ok {P : Program} {R : Map} {w : World} {t : TypeId} {d : TypeDesc} {x y : Value} {b : Bool} (hu : P.underlying t = some d) (hv : lnilEq d x y = some b) :
    (Op.equal t (ren R x) (ren R y)).run P w = .ok b w := lnilEq_at 9999 hu hv
end
end Go.Proofs.YtedfhallhpkkhaaGreatDoor.X
