/- One operation of the model (no call of a Go function) on the local heap: all of them under one function. Any program. -/
import Derived.Test.YtedfhallhpkkhaaGreatDoorXh
import Derived.Laws.Strings
set_option linter.unusedVariables false
set_option linter.unusedSimpArgs false
namespace Go.Proofs.YtedfhallhpkkhaaGreatDoor.X
open Go
noncomputable section

/-- ρr reads on the real side what ρ reads locally. -/
def Reads (R : Map) (ρ : Operand → Option Value) (ρr : Operand → Value) : Prop := ∀ x v, ρ x = some v → ρr x = ren R v ∧ wfv R v

def evals (ρ : Operand → Option Value) : List Operand → Option (List Value)
  | [] => some []
  | x :: l => match ρ x with
    | some v => match evals ρ l with
      | some vs => some (v :: vs)
      | none => none
    | none => none
theorem evals_ok {R : Map} {ρ : Operand → Option Value} {ρr : Operand → Value} (hρ : Reads R ρ ρr) : ∀ {l : List Operand} {vs : List Value}, evals ρ l = some vs → l.map ρr = vs.map (ren R) ∧ wfL R vs
  | [], vs, h => by simp only [evals, Option.some.injEq] at h; subst h; exact ⟨rfl, trivial⟩
  | x :: l, vs, h => by
    simp only [evals] at h
    split at h
    case h_2 => cases h
    rename_i v hv
    split at h
    case h_2 => cases h
    rename_i us hus
    simp only [Option.some.injEq] at h
    subst h
    obtain ⟨h1, h2⟩ := evals_ok hρ hus
    obtain ⟨h3, h4⟩ := hρ x v hv
    exact ⟨by simp [h1, h3], h4, h2⟩
theorem evalsA_ok {R : Map} {ρ : Operand → Option Value} {ρr : Operand → Value} (hρ : Reads R ρ ρr) {a : Array Operand} {vs : List Value} (h : evals ρ a.toList = some vs) : a.map ρr = renA R vs.toArray ∧ wfA R vs.toArray := by
  obtain ⟨h1, h2⟩ := evals_ok hρ h
  refine ⟨?_, h2⟩
  rw [renA_eq]
  apply Array.ext'
  simp [h1]
def evalParts (ρ : Operand → Option Value) : List (Nat × Operand) → Option (List (Nat × Value))
  | [] => some []
  | (i, x) :: l => match ρ x with
    | some v => match evalParts ρ l with
      | some vs => some ((i, v) :: vs)
      | none => none
    | none => none
theorem evalParts_ok {R : Map} {ρ : Operand → Option Value} {ρr : Operand → Value} (hρ : Reads R ρ ρr) : ∀ {l : List (Nat × Operand)} {vs : List (Nat × Value)}, evalParts ρ l = some vs →
    (l.map fun p => (p.1, ρr p.2)) = (vs.map fun p => (p.1, ren R p.2)) ∧ ∀ p ∈ vs, wfv R p.2
  | [], vs, h => by simp only [evalParts, Option.some.injEq] at h; subst h; exact ⟨rfl, fun p hp => by cases hp⟩
  | (i, x) :: l, vs, h => by
    simp only [evalParts] at h
    split at h
    case h_2 => cases h
    rename_i v hv
    split at h
    case h_2 => cases h
    rename_i us hus
    simp only [Option.some.injEq] at h
    subst h
    obtain ⟨h1, h2⟩ := evalParts_ok hρ hus
    obtain ⟨h3, h4⟩ := hρ x v hv
    exact ⟨by simp [h1, h3], fun p hp => by
      rcases List.mem_cons.1 hp with rfl | hp
      · exact h4
      · exact h2 p hp⟩
theorem evalPartsA_ok {R : Map} {ρ : Operand → Option Value} {ρr : Operand → Value} (hρ : Reads R ρ ρr) {a : Array (Nat × Operand)} {vs : List (Nat × Value)} (h : evalParts ρ a.toList = some vs) :
    (a.map fun (i, x) => (i, ρr x)) = (vs.toArray.map fun p => (p.1, ren R p.2)) ∧ ∀ p ∈ vs.toArray, wfv R p.2 := by
  obtain ⟨h1, h2⟩ := evalParts_ok hρ h
  refine ⟨?_, fun p hp => h2 p (by simpa using hp)⟩
  apply Array.ext'
  simpa using h1

def isSelect : Op → Bool
  | .select .. => true
  | _ => false
/-- An operation on values without addresses that asks nothing but the program. -/
def lplain (P : Program) (ρ : Operand → Option Value) (o : Oper) : Option Value :=
  if isSelect o.op = true then none else
  if o.op.operands.all (fun x => match ρ x with | some v => plain v | none => false) = true then
    match runP P (execOp (fun x => (ρ x).getD undef) o) with
    | some (.value v) => if plain v = true then some v else none
    | _ => none
  else none
theorem lplain_ok {P : Program} {R : Map} {w : World} {ρ : Operand → Option Value} {ρr : Operand → Value} {o : Oper} {v : Value} (hρ : Reads R ρ ρr) (hv : lplain P ρ o = some v) :
    (execOp ρr o).run P w = .ok (.value (ren R v)) w ∧ wfv R v := by
  unfold lplain at hv
  split at hv
  case isTrue => cases hv
  rename_i hsel
  split at hv
  case isFalse => cases hv
  rename_i hall
  split at hv
  case h_2 => cases hv
  rename_i u hr
  split at hv
  case isFalse => cases hv
  rename_i hp
  simp only [Option.some.injEq] at hv
  subst hv
  obtain ⟨h1, h2⟩ := plain_ren R u hp
  refine ⟨?_, h2⟩
  rw [h1, ← runP_run hr w]
  congr 1
  refine execOp_congr o (fun cs b h => by rw [h] at hsel; exact hsel rfl) (fun x hx => ?_)
  have := Array.all_eq_true_iff_forall_mem.1 hall x hx
  split at this
  · rename_i y hy
    rw [(hρ x y hy).1, (plain_ren R y this).1, hy]
    rfl
  · cases this

def lstrOp (op : BinOp) (x y : ByteArray) : Option Value :=
  match op with
  | .add => if x.size + y.size ≤ 1000000 then some (.string ⟨⟨x.data.toList ++ y.data.toList⟩⟩) else none
  | .eql => some (.bool (x.data.toList == y.data.toList))
  | .neq => some (.bool !(x.data.toList == y.data.toList))
  | .lss => some (.bool (Op.bytesLess x.data.toList y.data.toList))
  | .leq => some (.bool (Op.bytesLess x.data.toList y.data.toList || x.data.toList == y.data.toList))
  | .gtr => some (.bool !(Op.bytesLess x.data.toList y.data.toList || x.data.toList == y.data.toList))
  | .geq => some (.bool !(Op.bytesLess x.data.toList y.data.toList))
  | _ => none
theorem toListData (s : ByteArray) : s.toList = s.data.toList := ByteArray.toList_eq s
theorem lstrOp_ok {P : Program} {R : Map} {w : World} {op : BinOp} {x y : ByteArray} {v : Value} (hv : lstrOp op x y = some v) : (Op.stringOp op x y).run P w = .ok (ren R v) w ∧ wfv R v := by
  unfold lstrOp at hv
  unfold Op.stringOp
  simp only [toListData]
  split at hv
  · split at hv
    case isFalse => cases hv
    rename_i hle
    simp only [Option.some.injEq] at hv
    subst hv
    refine ⟨?_, trivial⟩
    have hmax : IntKind.i64.max = 9223372036854775807 := by decide
    have : ¬ (((x.size + y.size : Nat) : Int) > IntKind.i64.max) := by rw [hmax]; omega
    simp only
    rw [if_neg this]
    simp only [ren, Sem.run_pure]
    congr 2
  all_goals first
    | cases hv; done
    | (simp only [Option.some.injEq] at hv; subst hv; exact ⟨rfl, trivial⟩)

def lbinOp (P : Program) (op : BinOp) (t : TypeId) (x y : Value) : Option Value :=
  match x, y with
  | .string a, .string b => lstrOp op a b
  | _, _ =>
    match P.underlying t with
    | some d =>
      match op, lnilEq d x y with
      | .eql, some b => some (.bool b)
      | .neq, some b => some (.bool !b)
      | _, _ => none
    | none => none

def lconvert (P : Program) (h : LH) (src dst : TypeId) (x : Value) : Option (Value × LH) :=
  match P.underlying src, P.underlying dst, x with
  | some .string, some (.slice e), .string s =>
    match P.underlying e with
    | some (.int .u8) => some (lbytesOf h s)
    | _ => none
  | some (.slice e), some .string, .slice a l c =>
    match P.underlying e with
    | some (.int .u8) => (lstring h (.slice a l c)).map fun v => (v, h)
    | _ => none
  | _, _, _ => none

def lrange (P : Program) (h : LH) (t : TypeId) (x : Value) : Option (Value × LH) :=
  match P.underlying t, x with
  | some (.map _ _), .map (some m) =>
    match mapAt h m with
    | some (_, clk) => some (.pointer (some ⟨h.next, 0, none⟩), h.add (.obj (.mapIter (some m) clk #[] clk)))
    | none => none
  | _, _ => none
/-- The next entry of a map that holds none. -/
def lnext (h : LH) (x : Value) (isString : Bool) : Option Value :=
  match x, isString with
  | .pointer (some ⟨r, 0, none⟩), false =>
    match h.get r with
    | some (.obj (.mapIter (some m) _ ⟨[]⟩ _)) =>
      match mapAt h m with
      | some ([], _) => some (.tuple #[.bool false])
      | _ => none
    | _ => none
  | _, _ => none

def lcallB (P : Program) (h : LH) (c : Call) (vs : List Value) (b : Builtin) : Option (Value × LH) :=
  match b with
  | .append => lappend P h c.argTypes vs.toArray
  | .len => match c.argTypes[0]?, vs with
    | some t, [x] => (llen P h t x).map fun v => (v, h)
    | _, _ => none
  | _ => none

def lop (P : Program) (ρ : Operand → Option Value) (h : LH) (o : Oper) : Option (Value × LH) :=
  match o.op with
  | .move x | .assign x => match ρ x with
    | some v => some (v, h)
    | none => none
  | .pick c a b => match ρ c, ρ a, ρ b with
    | some (.bool c), some a, some b => some (if c = true then a else b, h)
    | _, _, _ => none
  | .alloc t => lalloc P h t
  | .box _ x => match ρ x with
    | some v => some (lnew h v.cells.toList)
    | none => none
  | .build t parts => match evalParts ρ parts.toList with
    | some vs => match lbuild P t vs.toArray with
      | some v => some (v, h)
      | none => none
    | none => none
  | .buildSlice t len parts => match evalParts ρ parts.toList with
    | some vs => lbuildSlice P h t len vs.toArray
    | none => none
  | .load t x => match ρ x with
    | some a => match lload P h t a with
      | some v => some (v, h)
      | none => none
    | none => none
  | .store t x y => match ρ x, ρ y with
    | some a, some v => match lstore P h t a v with
      | some h' => some (undef, h')
      | none => none
    | _, _ => none
  | .nilCheck x => match ρ x with
    | some (.pointer (some a)) => some (.pointer (some a), h)
    | _ => none
  | .binOp op t x y yt => match ρ x, ρ y with
    | some a, some b => match lbinOp P op t a b with
      | some v => some (v, h)
      | none => match lplain P ρ o with
        | some v => some (v, h)
        | none => none
    | _, _ => none
  | .convert src dst x => match ρ x with
    | some a => match lconvert P h src dst a with
      | some r => some r
      | none => match lplain P ρ o with
        | some v => some (v, h)
        | none => none
    | none => none
  | .makeFunc fn first captured => match evals ρ first.toList, evals ρ captured.toList with
    | some fs, some cs => if plainFn fn = true then some (.func fn fs.toArray cs.toArray, h) else none
    | _, _ => none
  | .makeMap t none => some (lmakeMap h)
  | .makeMap t (some x) => match ρ x with
    | some v => lmakeMapHint P h t v
    | none => none
  | .makeSlice t x y => match ρ x, ρ y with
    | some a, some b => lmakeSlice P h t a b
    | _, _ => none
  | .slice t x lo hi none =>
    match ρ x, evals ρ lo.toList, evals ρ hi.toList with
    | some a, some l, some u => match lslice P h t a (l.head?) (u.head?) with
      | some v => some (v, h)
      | none => match lplain P ρ o with
        | some v => some (v, h)
        | none => none
    | _, _, _ => none
  | .fieldAddr t x f => match ρ x with
    | some a => match lfieldAddr P t a f with
      | some v => some (v, h)
      | none => none
    | none => none
  | .field t x f => match ρ x with
    | some a => match lfield P t a f with
      | some v => some (v, h)
      | none => none
    | none => none
  | .indexAddr t x y => match ρ x, ρ y with
    | some a, some b => match lindexAddr P t a b with
      | some v => some (v, h)
      | none => none
    | _, _ => none
  | .index t x y => match ρ x, ρ y with
    | some a, some b => match lindex P t a b with
      | some v => some (v, h)
      | none => none
    | _, _ => none
  | .lookup t x y ok => match ρ x, ρ y with
    | some a, some b => match llookup P h t a b ok with
      | some v => some (v, h)
      | none => none
    | _, _ => none
  | .mapUpdate t m k v | .insert t m k v => match ρ m, ρ k, ρ v with
    | some m, some k, some v => match lmapUpdate P h t m k v with
      | some h' => some (undef, h')
      | none => none
    | _, _, _ => none
  | .mapEntry t m k => match ρ m, ρ k with
    | some m, some k => lmapEntry P h t m k
    | _, _ => none
  | .entryStore t m s v => match ρ m, ρ s, ρ v with
    | some m, some s, some v => match lentryStore h m s v with
      | some h' => some (undef, h')
      | none => none
    | _, _, _ => none
  | .range t x => match ρ x with
    | some a => lrange P h t a
    | none => none
  | .next x b => match ρ x with
    | some a => match lnext h a b with
      | some v => some (v, h)
      | none => none
    | none => none
  | .extract x i => match ρ x with
    | some a => match lextract a i with
      | some v => some (v, h)
      | none => none
    | none => none
  | .call c => match c.callee with
    | .builtin b => match evals ρ c.args.toList with
      | some vs => match lcallB P h c vs b with
        | some r => some r
        | none => match lplain P ρ o with
          | some v => some (v, h)
          | none => none
      | none => none
    | _ => none
  | _ => match lplain P ρ o with
    | some v => some (v, h)
    | none => none

/-- s gives the value that v stands for, or gives none and v is no value. -/
def OpRun (P : Program) (R : Map) (h : LH) (w : World) (s : Sem Next) (v : Value) (h' : LH) : Prop :=
  ∃ R' w', (s.run P w = .ok (.value (ren R' v)) w' ∨ (s.run P w = .ok .skip w' ∧ v = undef)) ∧ wfv R' v ∧ Goes R h w R' h' w'
theorem OpRun.of_ok {P : Program} {R : Map} {h h' : LH} {w : World} {s : Sem Value} {v : Value} (k : OpOk P R h w s v h') : OpRun P R h w (do pure (.value (← s))) v h' := by
  obtain ⟨R', w', h1, h2, h3⟩ := k
  exact ⟨R', w', .inl (by simp [h1]), h2, h3⟩
theorem OpRun.of_pure {P : Program} {R : Map} {h : LH} {w : World} {s : Sem Value} {v : Value} (r : HRel R h w.heap) (k : s.run P w = .ok (ren R v) w ∧ wfv R v) : OpRun P R h w (do pure (.value (← s))) v h :=
  ⟨R, w, .inl (by simp [k.1]), k.2, Goes.refl r⟩
theorem OpRun.of_unit {P : Program} {R : Map} {h h' : LH} {w : World} {s : Sem Unit} (k : ∃ w', s.run P w = .ok () w' ∧ Goes R h w R h' w') : OpRun P R h w (do s; pure .skip) undef h' := by
  obtain ⟨w', h1, h2⟩ := k
  exact ⟨R, w', .inr ⟨by simp [h1], rfl⟩, trivial, h2⟩
theorem OpRun.of_plain {P : Program} {R : Map} {h : LH} {w : World} {ρ : Operand → Option Value} {ρr : Operand → Value} {o : Oper} {v : Value} (r : HRel R h w.heap) (hρ : Reads R ρ ρr) (hv : lplain P ρ o = some v) :
    OpRun P R h w (execOp ρr o) v h := by
  obtain ⟨h1, h2⟩ := lplain_ok (w := w) hρ hv
  exact ⟨R, w, .inl h1, h2, Goes.refl r⟩
end
end Go.Proofs.YtedfhallhpkkhaaGreatDoor.X
