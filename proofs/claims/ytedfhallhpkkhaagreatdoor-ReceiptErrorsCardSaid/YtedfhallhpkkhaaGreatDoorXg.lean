/- Maps and slices made anew, comparisons with nil, on the local heap. Any program. -/
import Derived.Test.YtedfhallhpkkhaaGreatDoorXf
import Derived.IntWalk
set_option linter.unusedVariables false
set_option linter.unusedSimpArgs false
namespace Go.Proofs.YtedfhallhpkkhaaGreatDoor.X
open Go
noncomputable section

def mapAt (h : LH) (i : Nat) : Option (List MapEntry × Nat) :=
  match h.get i with
  | some (.map es clock) => some (es, clock)
  | _ => none
theorem mapAt_get {h : LH} {i : Nat} {es : List MapEntry} {c : Nat} (hm : mapAt h i = some (es, c)) : h.get i = some (.map es c) := by
  unfold mapAt at hm
  split at hm
  · rename_i es' c' hg
    simp only [Option.some.injEq, Prod.mk.injEq] at hm
    obtain ⟨rfl, rfl⟩ := hm
    exact hg
  · cases hm
theorem run_getObj_eq {P : Program} {w : World} {r : Nat} {o : Obj} (h : w.heap[r]? = some o) (hc : ∀ c t f, o ≠ .cells c t f) : (getObj r).run P w = .ok o w := by
  simp only [getObj, Sem.run, h]
theorem getMap_ok {P : Program} {R : Map} {h : LH} {w : World} (r : HRel R h w.heap) {i : Nat} {es : List MapEntry} {c : Nat} (hm : mapAt h i = some (es, c)) :
    (getObj (R.b i)).run P w = .ok (.map (es.map (renE R)).toArray c) w ∧ (∀ e ∈ es, wfv R e.key ∧ wfv R e.val) := by
  obtain ⟨_, h1, h2⟩ := r.ok i _ (mapAt_get hm)
  exact ⟨run_getObj_eq h1 (fun _ _ _ e => by cases e), h2⟩
theorem setObj_ok {P : Program} {R : Map} {h : LH} {w : World} (r : HRel R h w.heap) {i : Nat} {o o' : LO} {x x' : Obj} (hi : h.get i = some o) (hx : w.heap[R.b i]? = some x) (hc : ∀ c t f, x ≠ .cells c t f)
    (ho : ORel R i o' (some x')) : ∃ w', (setObj (R.b i) x').run P w = .ok () w' ∧ Goes R h w R (h.put i o') w' := by
  have hlt : R.b i < w.heap.size := (Array.getElem?_eq_some_iff.1 hx).1
  refine ⟨{ w with heap := w.heap.setIfInBounds (R.b i) x' }, ?_, ?_⟩
  · simp only [setObj, Sem.run, hx]
  · refine Goes.put r hi (by simp) ?_ (fun b hb => by rw [Array.getElem?_setIfInBounds_ne (fun e => hb e.symm)])
    rw [Array.getElem?_setIfInBounds_self_of_lt hlt]
    exact ho
theorem newObj_ok {P : Program} {R : Map} {h : LH} {w : World} (r : HRel R h w.heap) {o : LO} {x : Obj} (ho : ORel (R.put h.next w.heap.size 0) h.next o (some x)) :
    ∃ R' w', (newObj x).run P w = .ok (R'.b h.next) w' ∧ (R' h.next).isSome = true ∧ Goes R h w R' (h.add o) w' :=
  ⟨R.put h.next w.heap.size 0, { w with heap := w.heap.push x }, by rw [Map.put_b]; rfl, Map.put_isSome _ _ _ _, Goes.add r ho⟩

/-! ### make -/
def lmakeMap (h : LH) : Value × LH := (.map (some h.next), h.add (.map [] 0))
theorem lmakeMap_ok {P : Program} {R : Map} {h : LH} {w : World} (r : HRel R h w.heap) (t : TypeId) : OpOk P R h w (Instr.makeMap t none) (lmakeMap h).1 (lmakeMap h).2 := by
  obtain ⟨R', w', h1, h2, h3⟩ := newObj_ok (P := P) (o := .map [] 0) (x := .map #[] 0) r ⟨rfl, fun e he => by cases he⟩
  refine ⟨R', w', ?_, h2, h3⟩
  simp [Instr.makeMap, h1, lmakeMap, ren]
def lmakeMapHint (P : Program) (h : LH) (t : TypeId) (x : Value) : Option (Value × LH) :=
  match P.underlying t, x with
  | some (.map _ _), .int _ _ => some (lmakeMap h)
  | _, _ => none
theorem lmakeMapHint_ok {P : Program} {R : Map} {h h' : LH} {w : World} {t : TypeId} {x v : Value} (r : HRel R h w.heap) (hv : lmakeMapHint P h t x = some (v, h')) :
    OpOk P R h w (Instr.makeMap t (some (ren R x))) v h' := by
  unfold lmakeMapHint at hv
  split at hv
  case h_2 => cases hv
  rename_i k e kk n hu
  simp only [Option.some.injEq] at hv
  obtain ⟨R', w', h1, h2, h3⟩ := newObj_ok (P := P) (o := .map [] 0) (x := .map #[] 0) r ⟨rfl, fun e he => by cases he⟩
  have e1 : v = (lmakeMap h).1 := by rw [hv]
  have e2 : h' = (lmakeMap h).2 := by rw [hv]
  subst e1; subst e2
  refine ⟨R', w', ?_, h2, h3⟩
  simp [Instr.makeMap, h1, lmakeMap, ren, run_underlying hu, asInt, asIntOf]
def lmakeSlice (P : Program) (h : LH) (t : TypeId) (len cap : Value) : Option (Value × LH) :=
  match P.underlying t, len, cap with
  | some (.slice elem), .int _ l, .int _ c =>
    match P.info? elem with
    | some ie =>
      match ie.zero with
      | some z =>
        if 0 ≤ l ∧ l ≤ c ∧ c ≤ 1000000 ∧ ie.bytes * 1000000 ≤ 281474976710656 then
          if plainA (tile (c.toNat * ie.size) z) = true then some (.slice (some ⟨h.next, 0, none⟩) l.toNat c.toNat, h.add (.cells (tile (c.toNat * ie.size) z).toList 0)) else none
        else none
      | none => none
    | none => none
  | _, _, _ => none
theorem wrap_small {c : Int} (h0 : 0 ≤ c) (h1 : c ≤ 1000000) : IntKind.i64.wrap c = c := IntWalk.i64_in c (by omega)
set_option maxRecDepth 100000 in
theorem lmakeSlice_ok {P : Program} {R : Map} {h h' : LH} {w : World} {t : TypeId} {len cap v : Value} (r : HRel R h w.heap) (hv : lmakeSlice P h t len cap = some (v, h')) :
    OpOk P R h w (Instr.makeSlice t (ren R len) (ren R cap)) v h' := by
  unfold lmakeSlice at hv
  split at hv
  case h_2 => cases hv
  rename_i elem k1 l k2 c hu
  split at hv
  case h_2 => cases hv
  rename_i ie hie
  split at hv
  case h_2 => cases hv
  rename_i z hz
  split at hv
  case isFalse => cases hv
  rename_i hcond
  obtain ⟨h0, h1, h2, h3⟩ := hcond
  split at hv
  case isFalse => cases hv
  rename_i hpl
  simp only [Option.some.injEq, Prod.mk.injEq] at hv
  obtain ⟨rfl, rfl⟩ := hv
  obtain ⟨hpr, hpw⟩ := plainA_ren R _ hpl
  have hwl : wfL R (tile (c.toNat * ie.size) z).toList := by
    rw [wfL_iff]; rw [wfA_iff] at hpw; intro x hx; exact hpw x (by simpa using hx)
  obtain ⟨R', w', g1, g2, g3, g4⟩ := newRow_ok (P := P) r hwl elem
  refine ⟨R', w', ?_, ⟨g2, rfl⟩, g4⟩
  have hrow : (((tile (c.toNat * ie.size) z).toList).map (ren R)).toArray = tile (c.toNat * ie.size) z := by
    rw [renA_eq] at hpr
    conv => rhs; rw [← hpr]
    apply Array.ext'
    simp
  rw [hrow] at g1
  have wl : IntKind.i64.wrap l = l := wrap_small h0 (by omega)
  have wc : IntKind.i64.wrap c = c := wrap_small (by omega) h2
  have hb : ¬ (ie.bytes * c > 2 ^ 48) := by
    have h4 : (ie.bytes : Int) * c ≤ ie.bytes * 1000000 := Int.mul_le_mul_of_nonneg_left h2 (by omega)
    have h6 : (2 ^ 48 : Int) = 281474976710656 := rfl
    rw [h6]
    omega
  have hbad : ¬ ((decide (c < 0) || decide ((ie.bytes : Int) * c > 2 ^ 48) || decide (l < 0) || decide (l > c)) = true) := by
    simp only [Bool.or_eq_true, decide_eq_true_eq]
    rintro (((h4 | h4) | h4) | h4)
    · omega
    · exact hb h4
    · omega
    · omega
  simp only [Instr.makeSlice, Sem.run_bind, run_underlying hu w, Result.andThen_ok, asInt, asIntOf, ren, Sem.run_pure, typeInfo, run_program, hie, wl, wc]
  rw [if_neg hbad]
  simp only [Sem.run_bind, run_askRoom, Result.andThen_ok, sizeOf, typeInfo, run_program, hie, Sem.run_pure]
  by_cases hn : c.toNat * ie.size = 0
  · simp only [tile, zcs, if_pos hn] at g1
    rw [if_pos hn]
    simp only [Sem.run_bind, Sem.run_pure, Result.andThen_ok, g1, g3, Nat.add_zero]
  · simp only [tile, zcs, if_neg hn] at g1
    rw [if_neg hn]
    simp only [Sem.run_bind, zeroValue, typeInfo, run_program, hie, hz, Sem.run_pure, Result.andThen_ok, g1, g3, Nat.add_zero]

/-! ### Looking a key up -/
def renHit (R : Map) (x : Option (Nat × Value)) : Option (Nat × Value) := x.map fun p => (p.1, ren R p.2)
theorem findNow_ren (R : Map) (kind : TypeDesc) (k : Value) : ∀ (es : List MapEntry) (i : Nat), (∀ e ∈ es, plain e.key = true) →
    Instr.findNow kind k (es.map (renE R)) i = (Instr.findNow kind k es i).map (renHit R)
  | [], _, _ => rfl
  | e :: es, i, h => by
    have hk : (renE R e).key = e.key := (plain_ren R _ (h e (by simp))).1
    simp only [List.map_cons, Instr.findNow, hk]
    cases Instr.sameNow kind k e.key with
    | none => rfl
    | some b =>
      cases b with
      | true => rfl
      | false => exact findNow_ren R kind k es (i + 1) (fun e he => h e (by simp [he]))
theorem runP_bind {α β : Type} {P : Program} {s : Sem α} {f : α → Sem β} {b : β} (h : runP P (s >>= f) = some b) : ∃ a, runP P s = some a ∧ runP P (f a) = some b := by
  induction s with
  | pure a => exact ⟨a, rfl, h⟩
  | program k ih => exact ih P h
  | mark m k ih => exact ih h
  | _ => simp [bind, Sem.bind, runP] at h
theorem findAsking_ren {P : Program} (R : Map) (kt : TypeId) (k : Value) (w : World) : ∀ (es : List MapEntry) (i : Nat) (x : Option (Nat × Value)), (∀ e ∈ es, plain e.key = true) →
    runP P (Instr.findAsking kt k es i) = some x → (Instr.findAsking kt k (es.map (renE R)) i).run P w = .ok (renHit R x) w
  | [], i, x, _, h => by
    simp only [Instr.findAsking] at h
    have : x = none := by
      have h' : some (none : Option (Nat × Value)) = some x := h
      simpa using h'.symm
    subst this
    rfl
  | e :: es, i, x, hp, h => by
    have hk : (renE R e).key = e.key := (plain_ren R _ (hp e (by simp))).1
    simp only [Instr.findAsking] at h
    obtain ⟨b, hb, h⟩ := runP_bind h
    simp only [List.map_cons, Instr.findAsking, hk, Sem.run_bind, runP_run hb w, Result.andThen_ok]
    cases b with
    | true =>
      simp only [if_true] at h ⊢
      have h' : some (some (i, e.val)) = some x := h
      simp only [Option.some.injEq] at h'
      subst h'
      rfl
    | false =>
      simp only [Bool.false_eq_true, if_false] at h ⊢
      exact findAsking_ren R kt k w es (i + 1) x (fun e he => hp e (by simp [he])) h
theorem findKey_ren {P : Program} (R : Map) {kt : TypeId} {k : Value} (w : World) {es : List MapEntry} {x : Option (Nat × Value)} (hp : ∀ e ∈ es, plain e.key = true)
    (h : runP P (Instr.findKey kt k es) = some x) : (Instr.findKey kt k (es.map (renE R))).run P w = .ok (renHit R x) w := by
  unfold Instr.findKey at h ⊢
  obtain ⟨d, hd, h⟩ := runP_bind h
  simp only [Sem.run_bind, runP_run hd w, Result.andThen_ok, findNow_ren R d k es 0 hp]
  cases hf : Instr.findNow d k es 0 with
  | none =>
    rw [hf] at h
    simp only [Option.map_none] at h ⊢
    exact findAsking_ren R kt k w es 0 x hp h
  | some y =>
    rw [hf] at h
    simp only [Option.map_some] at h ⊢
    have h' : some y = some x := h
    simp only [Option.some.injEq] at h'
    subst h'
    rfl
theorem findNow_val {kind : TypeDesc} {k : Value} : ∀ {es : List MapEntry} {i j : Nat} {v : Value}, Instr.findNow kind k es i = some (some (j, v)) → ∃ e ∈ es, e.val = v
  | [], _, _, _, h => by simp [Instr.findNow] at h
  | e :: es, i, j, v, h => by
    simp only [Instr.findNow] at h
    split at h
    · simp only [Option.some.injEq, Prod.mk.injEq] at h; exact ⟨e, by simp, h.2⟩
    · obtain ⟨e', he, hv⟩ := findNow_val h; exact ⟨e', by simp [he], hv⟩
    · cases h
theorem findAsking_val {P : Program} {kt : TypeId} {k : Value} : ∀ {es : List MapEntry} {i j : Nat} {v : Value}, runP P (Instr.findAsking kt k es i) = some (some (j, v)) → ∃ e ∈ es, e.val = v
  | [], _, _, _, h => by
    simp only [Instr.findAsking] at h
    have h' : some (none : Option (Nat × Value)) = some (some _) := h
    simp at h'
  | e :: es, i, j, v, h => by
    simp only [Instr.findAsking] at h
    obtain ⟨b, hb, h⟩ := runP_bind h
    cases b with
    | true =>
      simp only [if_true] at h
      have h' : some (some (i, e.val)) = some (some (j, v)) := h
      simp only [Option.some.injEq, Prod.mk.injEq] at h'
      exact ⟨e, by simp, h'.2⟩
    | false =>
      simp only [Bool.false_eq_true, if_false] at h
      obtain ⟨e', he, hv⟩ := findAsking_val h
      exact ⟨e', by simp [he], hv⟩
theorem findKey_val {P : Program} {kt : TypeId} {k : Value} {es : List MapEntry} {j : Nat} {v : Value} (h : runP P (Instr.findKey kt k es) = some (some (j, v))) : ∃ e ∈ es, e.val = v := by
  unfold Instr.findKey at h
  obtain ⟨d, hd, h⟩ := runP_bind h
  cases hf : Instr.findNow d k es 0 with
  | none => rw [hf] at h; exact findAsking_val h
  | some y =>
    rw [hf] at h
    have h' : some y = some (some (j, v)) := h
    simp only [Option.some.injEq] at h'
    subst h'
    exact findNow_val hf

def llookup (P : Program) (h : LH) (t : TypeId) (x ix : Value) (commaOk : Bool) : Option Value :=
  match P.underlying t with
  | some (.map key elem) =>
    match (match x with | .map none => some [] | .map (some r) => (mapAt h r).map (·.1) | _ => none : Option (List MapEntry)) with
    | some es =>
      if plain ix = true ∧ es.all (fun e => plain e.key) = true then
        match runP P (Instr.checkKey es.isEmpty 10000 key ix), runP P (Instr.findKey key ix es) with
        | some _, some (some (_, v)) => some (if commaOk = true then .tuple #[v, .bool true] else v)
        | some _, some none =>
          match P.info? elem with
          | some ie => match ie.zero with
            | some z => if plain z = true then some (if commaOk = true then .tuple #[z, .bool false] else z) else none
            | none => none
          | none => none
        | _, _ => none
      else none
    | none => none
  | _ => none
theorem llookup_ok {P : Program} {R : Map} {h : LH} {w : World} {t : TypeId} {x ix v : Value} {ok : Bool} (r : HRel R h w.heap) (hv : llookup P h t x ix ok = some v) :
    (Instr.lookup t (ren R x) (ren R ix) ok).run P w = .ok (ren R v) w ∧ wfv R v := by
  unfold llookup at hv
  split at hv
  case h_2 => cases hv
  rename_i key elem hu
  split at hv
  case h_2 => cases hv
  rename_i es hes
  split at hv
  case isFalse => cases hv
  rename_i hp
  have hix := (plain_ren R ix hp.1).1
  have hpk : ∀ e ∈ es, plain e.key = true := List.all_eq_true.1 hp.2
  have hcase : ((ren R x = .map none ∧ es = []) ∨ ∃ b clk, ren R x = .map (some b) ∧ (getObj b).run P w = .ok (.map (es.map (renE R)).toArray clk) w) ∧ ∀ e ∈ es, wfv R e.key ∧ wfv R e.val := by
    split at hes
    · simp only [Option.some.injEq] at hes; subst hes; exact ⟨.inl ⟨rfl, rfl⟩, fun e he => by cases he⟩
    · rename_i i
      simp only [Option.map_eq_some_iff] at hes
      obtain ⟨⟨es', c⟩, hm, rfl⟩ := hes
      obtain ⟨h1, h2⟩ := getMap_ok (P := P) r hm
      exact ⟨.inr ⟨_, _, rfl, h1⟩, h2⟩
    · cases hes
  obtain ⟨hcase, hwf⟩ := hcase
  have hemp : (es.map (renE R)).toArray.isEmpty = es.isEmpty := by cases es <;> simp
  split at hv
  · rename_i u j v' hck hfk
    simp only [Option.some.injEq] at hv
    have hf := findKey_ren R w hpk hfk
    obtain ⟨e, he, hev⟩ := findKey_val hfk
    have hwv : wfv R v' := hev ▸ (hwf e he).2
    have hfin : ren R v = (if ok = true then .tuple #[ren R v', .bool true] else ren R v') ∧ wfv R v := by
      subst hv
      cases ok
      · exact ⟨rfl, hwv⟩
      · exact ⟨by simp [ren, renA, renL], hwv, trivial, trivial⟩
    refine ⟨?_, hfin.2⟩
    rcases hcase with ⟨hx0, hnil⟩ | ⟨b, clk, hx1, hg⟩
    · subst hnil; cases he
    · simp only [Instr.lookup, hx1, hg, Sem.run_bind, run_underlying hu w, hemp, hix, runP_run hck w, Result.andThen_ok, hf, renHit, Option.map_some, Sem.run_pure, hfin.1]
  · rename_i u hck hfk
    split at hv
    case h_2 => cases hv
    rename_i ie hie
    split at hv
    case h_2 => cases hv
    rename_i z hz
    split at hv
    case isFalse => cases hv
    rename_i hpz
    obtain ⟨hzr, hzw⟩ := plain_ren R z hpz
    simp only [Option.some.injEq] at hv
    have hf := findKey_ren R w hpk hfk
    have hfin : ren R v = (if ok = true then .tuple #[z, .bool false] else z) ∧ wfv R v := by
      subst hv
      cases ok
      · exact ⟨hzr, hzw⟩
      · exact ⟨by simp [ren, renA, renL, hzr], hzw, trivial, trivial⟩
    refine ⟨?_, hfin.2⟩
    rcases hcase with ⟨hx0, hnil⟩ | ⟨b, clk, hx1, hg⟩
    · subst hnil
      simp only [List.map_nil] at hf
      have hck' := runP_run hck w
      simp only [List.isEmpty_nil] at hck'
      simp only [Instr.lookup, hx0, Sem.run_bind, run_underlying hu w, hix, Array.isEmpty_empty, hck', Result.andThen_ok, hf, renHit, Option.map_none, zeroValue, typeInfo, run_program, hie, Sem.run_pure, hz, hfin.1]
    · simp only [Instr.lookup, hx1, hg, Sem.run_bind, run_underlying hu w, hemp, hix, runP_run hck w, Result.andThen_ok, hf, renHit, Option.map_none, zeroValue, typeInfo, run_program, hie, Sem.run_pure, hz, hfin.1]
  · cases hv
end
end Go.Proofs.YtedfhallhpkkhaaGreatDoor.X
