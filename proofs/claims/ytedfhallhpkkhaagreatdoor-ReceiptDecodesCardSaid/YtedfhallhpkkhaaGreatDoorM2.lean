/- The executor: one operation, the local run, and its fast form for the kernel. -/
import Derived.Test.YtedfhallhpkkhaaGreatDoorM1
import Derived.Laws.Strings
import Derived.RangeFuncLeaves
set_option linter.unusedVariables false
set_option linter.unusedSimpArgs false
/- One operation of the model (no call of a Go function) on the local heap: all of them under one function. Any program. -/
namespace Go.Proofs.YtedfhallhpkkhaaGreatDoor.X
open Go
noncomputable section

/-- ρr reads on the real side what ρ reads locally. -/
def Reads (R : Map) (ρ : Operand → Option Value) (ρr : Operand → Value) : Prop := ∀ x v, ρ x = some v → ρr x = ren R v ∧ wfv R v

def evals (ρ : Operand → Option Value) : List Operand → Option (List Value)
  | [] => some []
  | x :: l => match ρ x with
    | some v => match evals ρ l with
      | some vs => some (v :: vs)
      | none => none
    | none => none
theorem evals_ok {R : Map} {ρ : Operand → Option Value} {ρr : Operand → Value} (hρ : Reads R ρ ρr) : ∀ {l : List Operand} {vs : List Value}, evals ρ l = some vs → l.map ρr = vs.map (ren R) ∧ wfL R vs
  | [], vs, h => by simp only [evals, Option.some.injEq] at h; subst h; exact ⟨rfl, trivial⟩
  | x :: l, vs, h => by
    simp only [evals] at h
    split at h
    case h_2 => cases h
    rename_i v hv
    split at h
    case h_2 => cases h
    rename_i us hus
    simp only [Option.some.injEq] at h
    subst h
    obtain ⟨h1, h2⟩ := evals_ok hρ hus
    obtain ⟨h3, h4⟩ := hρ x v hv
    exact ⟨by simp [h1, h3], h4, h2⟩
theorem evalsA_ok {R : Map} {ρ : Operand → Option Value} {ρr : Operand → Value} (hρ : Reads R ρ ρr) {a : Array Operand} {vs : List Value} (h : evals ρ a.toList = some vs) : a.map ρr = renA R vs.toArray ∧ wfA R vs.toArray := by
  obtain ⟨h1, h2⟩ := evals_ok hρ h
  refine ⟨?_, h2⟩
  rw [renA_eq]
  apply Array.ext'
  simp [h1]
def evalParts (ρ : Operand → Option Value) : List (Nat × Operand) → Option (List (Nat × Value))
  | [] => some []
  | (i, x) :: l => match ρ x with
    | some v => match evalParts ρ l with
      | some vs => some ((i, v) :: vs)
      | none => none
    | none => none
theorem evalParts_ok {R : Map} {ρ : Operand → Option Value} {ρr : Operand → Value} (hρ : Reads R ρ ρr) : ∀ {l : List (Nat × Operand)} {vs : List (Nat × Value)}, evalParts ρ l = some vs →
    (l.map fun p => (p.1, ρr p.2)) = (vs.map fun p => (p.1, ren R p.2)) ∧ ∀ p ∈ vs, wfv R p.2
  | [], vs, h => by simp only [evalParts, Option.some.injEq] at h; subst h; exact ⟨rfl, fun p hp => by cases hp⟩
  | (i, x) :: l, vs, h => by
    simp only [evalParts] at h
    split at h
    case h_2 => cases h
    rename_i v hv
    split at h
    case h_2 => cases h
    rename_i us hus
    simp only [Option.some.injEq] at h
    subst h
    obtain ⟨h1, h2⟩ := evalParts_ok hρ hus
    obtain ⟨h3, h4⟩ := hρ x v hv
    exact ⟨by simp [h1, h3], fun p hp => by
      rcases List.mem_cons.1 hp with rfl | hp
      · exact h4
      · exact h2 p hp⟩
theorem evalPartsA_ok {R : Map} {ρ : Operand → Option Value} {ρr : Operand → Value} (hρ : Reads R ρ ρr) {a : Array (Nat × Operand)} {vs : List (Nat × Value)} (h : evalParts ρ a.toList = some vs) :
    (a.map fun (i, x) => (i, ρr x)) = (vs.toArray.map fun p => (p.1, ren R p.2)) ∧ ∀ p ∈ vs.toArray, wfv R p.2 := by
  obtain ⟨h1, h2⟩ := evalParts_ok hρ h
  refine ⟨?_, fun p hp => h2 p (by simpa using hp)⟩
  apply Array.ext'
  simpa using h1

def isSelect : Op → Bool
  | .select .. => true
  | _ => false
/-- An operation on values without addresses that asks nothing but the program. -/
def lplain (P : Program) (ρ : Operand → Option Value) (o : Oper) : Option Value :=
  if isSelect o.op = true then none else
  if o.op.operands.all (fun x => match ρ x with | some v => plain v | none => false) = true then
    match runP P (execOp (fun x => (ρ x).getD undef) o) with
    | some (.value v) => if plain v = true then some v else none
    | _ => none
  else none
theorem lplain_ok {P : Program} {R : Map} {w : World} {ρ : Operand → Option Value} {ρr : Operand → Value} {o : Oper} {v : Value} (hρ : Reads R ρ ρr) (hv : lplain P ρ o = some v) :
    (execOp ρr o).run P w = .ok (.value (ren R v)) w ∧ wfv R v := by
  unfold lplain at hv
  split at hv
  case isTrue => cases hv
  rename_i hsel
  split at hv
  case isFalse => cases hv
  rename_i hall
  split at hv
  case h_2 => cases hv
  rename_i u hr
  split at hv
  case isFalse => cases hv
  rename_i hp
  simp only [Option.some.injEq] at hv
  subst hv
  obtain ⟨h1, h2⟩ := plain_ren R u hp
  refine ⟨?_, h2⟩
  rw [h1, ← runP_run hr w]
  congr 1
  refine execOp_congr o (fun cs b h => by rw [h] at hsel; exact hsel rfl) (fun x hx => ?_)
  have := Array.all_eq_true_iff_forall_mem.1 hall x hx
  split at this
  · rename_i y hy
    rw [(hρ x y hy).1, (plain_ren R y this).1, hy]
    rfl
  · cases this

def lstrOp (op : BinOp) (x y : ByteArray) : Option Value :=
  match op with
  | .add => if x.size + y.size ≤ 1000000 then some (.string ⟨⟨x.data.toList ++ y.data.toList⟩⟩) else none
  | .eql => some (.bool (x.data.toList == y.data.toList))
  | .neq => some (.bool !(x.data.toList == y.data.toList))
  | .lss => some (.bool (Op.bytesLess x.data.toList y.data.toList))
  | .leq => some (.bool (Op.bytesLess x.data.toList y.data.toList || x.data.toList == y.data.toList))
  | .gtr => some (.bool !(Op.bytesLess x.data.toList y.data.toList || x.data.toList == y.data.toList))
  | .geq => some (.bool !(Op.bytesLess x.data.toList y.data.toList))
  | _ => none
theorem toListData (s : ByteArray) : s.toList = s.data.toList := ByteArray.toList_eq s
theorem lstrOp_ok {P : Program} {R : Map} {w : World} {op : BinOp} {x y : ByteArray} {v : Value} (hv : lstrOp op x y = some v) : (Op.stringOp op x y).run P w = .ok (ren R v) w ∧ wfv R v := by
  unfold lstrOp at hv
  unfold Op.stringOp
  simp only [toListData]
  split at hv
  · split at hv
    case isFalse => cases hv
    rename_i hle
    simp only [Option.some.injEq] at hv
    subst hv
    refine ⟨?_, trivial⟩
    have hmax : IntKind.i64.max = 9223372036854775807 := by decide
    have : ¬ (((x.size + y.size : Nat) : Int) > IntKind.i64.max) := by rw [hmax]; omega
    simp only
    rw [if_neg this]
    simp only [ren, Sem.run_pure]
    congr 2
  all_goals first
    | cases hv; done
    | (simp only [Option.some.injEq] at hv; subst hv; exact ⟨rfl, trivial⟩)

def lbinOp (P : Program) (op : BinOp) (t : TypeId) (x y : Value) : Option Value :=
  match x, y with
  | .string a, .string b => lstrOp op a b
  | _, _ =>
    match P.underlying t with
    | some d =>
      match op, lnilEq d x y with
      | .eql, some b => some (.bool b)
      | .neq, some b => some (.bool !b)
      | _, _ => none
    | none => none

def lconvert (P : Program) (h : LH) (src dst : TypeId) (x : Value) : Option (Value × LH) :=
  match P.underlying src, P.underlying dst, x with
  | some .string, some (.slice e), .string s =>
    match P.underlying e with
    | some (.int .u8) => some (lbytesOf h s)
    | _ => none
  | some (.slice e), some .string, .slice a l c =>
    match P.underlying e with
    | some (.int .u8) => (lstring h (.slice a l c)).map fun v => (v, h)
    | _ => none
  | _, _, _ => none

def lrange (P : Program) (h : LH) (t : TypeId) (x : Value) : Option (Value × LH) :=
  match P.underlying t, x with
  | some (.map _ _), .map (some m) =>
    match mapAt h m with
    | some (_, clk) => some (.pointer (some ⟨h.next, 0, none⟩), h.add (.obj (.mapIter (some m) clk #[] clk)))
    | none => none
  | _, _ => none
/-- The next entry of a map that holds none. -/
def lnext (h : LH) (x : Value) (isString : Bool) : Option Value :=
  match x, isString with
  | .pointer (some ⟨r, 0, none⟩), false =>
    match h.get r with
    | some (.obj (.mapIter (some m) _ ⟨[]⟩ _)) =>
      match mapAt h m with
      | some ([], _) => some (.tuple #[.bool false])
      | _ => none
    | _ => none
  | _, _ => none

def lcallB (P : Program) (h : LH) (c : Call) (vs : List Value) (b : Builtin) : Option (Value × LH) :=
  match b with
  | .append => lappend P h c.argTypes vs.toArray
  | .len => match c.argTypes[0]?, vs with
    | some t, [x] => (llen P h t x).map fun v => (v, h)
    | _, _ => none
  | _ => none

def lop (P : Program) (ρ : Operand → Option Value) (h : LH) (o : Oper) : Option (Value × LH) :=
  match o.op with
  | .move x | .assign x => match ρ x with
    | some v => some (v, h)
    | none => none
  | .pick c a b => match ρ c, ρ a, ρ b with
    | some (.bool c), some a, some b => some (if c = true then a else b, h)
    | _, _, _ => none
  | .alloc t => lalloc P h t
  | .box _ x => match ρ x with
    | some v => some (lnew h v.cells.toList)
    | none => none
  | .build t parts => match evalParts ρ parts.toList with
    | some vs => match lbuild P t vs.toArray with
      | some v => some (v, h)
      | none => none
    | none => none
  | .buildSlice t len parts => match evalParts ρ parts.toList with
    | some vs => lbuildSlice P h t len vs.toArray
    | none => none
  | .load t x => match ρ x with
    | some a => match lload P h t a with
      | some v => some (v, h)
      | none => none
    | none => none
  | .store t x y => match ρ x, ρ y with
    | some a, some v => match lstore P h t a v with
      | some h' => some (undef, h')
      | none => none
    | _, _ => none
  | .nilCheck x => match ρ x with
    | some (.pointer (some a)) => some (.pointer (some a), h)
    | _ => none
  | .binOp op t x y yt => match ρ x, ρ y with
    | some a, some b => match lbinOp P op t a b with
      | some v => some (v, h)
      | none => match lplain P ρ o with
        | some v => some (v, h)
        | none => none
    | _, _ => none
  | .convert src dst x => match ρ x with
    | some a => match lconvert P h src dst a with
      | some r => some r
      | none => match lplain P ρ o with
        | some v => some (v, h)
        | none => none
    | none => none
  | .makeFunc fn first captured => match evals ρ first.toList, evals ρ captured.toList with
    | some fs, some cs => if plainFn fn = true then some (.func fn fs.toArray cs.toArray, h) else none
    | _, _ => none
  | .makeMap t none => some (lmakeMap h)
  | .makeMap t (some x) => match ρ x with
    | some v => lmakeMapHint P h t v
    | none => none
  | .makeSlice t x y => match ρ x, ρ y with
    | some a, some b => lmakeSlice P h t a b
    | _, _ => none
  | .slice t x lo hi none =>
    match ρ x, evals ρ lo.toList, evals ρ hi.toList with
    | some a, some l, some u => match lslice P h t a (l.head?) (u.head?) with
      | some v => some (v, h)
      | none => match lplain P ρ o with
        | some v => some (v, h)
        | none => none
    | _, _, _ => none
  | .fieldAddr t x f => match ρ x with
    | some a => match lfieldAddr P t a f with
      | some v => some (v, h)
      | none => none
    | none => none
  | .field t x f => match ρ x with
    | some a => match lfield P t a f with
      | some v => some (v, h)
      | none => none
    | none => none
  | .indexAddr t x y => match ρ x, ρ y with
    | some a, some b => match lindexAddr P t a b with
      | some v => some (v, h)
      | none => none
    | _, _ => none
  | .index t x y => match ρ x, ρ y with
    | some a, some b => match lindex P t a b with
      | some v => some (v, h)
      | none => none
    | _, _ => none
  | .lookup t x y ok => match ρ x, ρ y with
    | some a, some b => match llookup P h t a b ok with
      | some v => some (v, h)
      | none => none
    | _, _ => none
  | .mapUpdate t m k v | .insert t m k v => match ρ m, ρ k, ρ v with
    | some m, some k, some v => match lmapUpdate P h t m k v with
      | some h' => some (undef, h')
      | none => none
    | _, _, _ => none
  | .mapEntry t m k => match ρ m, ρ k with
    | some m, some k => lmapEntry P h t m k
    | _, _ => none
  | .entryStore t m s v => match ρ m, ρ s, ρ v with
    | some m, some s, some v => match lentryStore h m s v with
      | some h' => some (undef, h')
      | none => none
    | _, _, _ => none
  | .range t x => match ρ x with
    | some a => lrange P h t a
    | none => none
  | .next x b => match ρ x with
    | some a => match lnext h a b with
      | some v => some (v, h)
      | none => none
    | none => none
  | .extract x i => match ρ x with
    | some a => match lextract a i with
      | some v => some (v, h)
      | none => none
    | none => none
  | .call c => match c.callee with
    | .builtin b => match evals ρ c.args.toList with
      | some vs => match lcallB P h c vs b with
        | some r => some r
        | none => match lplain P ρ o with
          | some v => some (v, h)
          | none => none
      | none => none
    | _ => none
  | _ => match lplain P ρ o with
    | some v => some (v, h)
    | none => none

/-- s gives the value that v stands for, or gives none and v is no value. -/
def OpRun (P : Program) (R : Map) (h : LH) (w : World) (s : Sem Next) (v : Value) (h' : LH) : Prop :=
  ∃ R' w', (s.run P w = .ok (.value (ren R' v)) w' ∨ (s.run P w = .ok .skip w' ∧ v = undef)) ∧ wfv R' v ∧ Goes R h w R' h' w'
theorem OpRun.of_ok {P : Program} {R : Map} {h h' : LH} {w : World} {s : Sem Value} {v : Value} (k : OpOk P R h w s v h') : OpRun P R h w (do pure (.value (← s))) v h' := by
  obtain ⟨R', w', h1, h2, h3⟩ := k
  exact ⟨R', w', .inl (by simp [h1]), h2, h3⟩
theorem OpRun.of_pure {P : Program} {R : Map} {h : LH} {w : World} {s : Sem Value} {v : Value} (r : HRel R h w.heap) (k : s.run P w = .ok (ren R v) w ∧ wfv R v) : OpRun P R h w (do pure (.value (← s))) v h :=
  ⟨R, w, .inl (by simp [k.1]), k.2, Goes.refl r⟩
theorem OpRun.of_unit {P : Program} {R : Map} {h h' : LH} {w : World} {s : Sem Unit} (k : ∃ w', s.run P w = .ok () w' ∧ Goes R h w R h' w') : OpRun P R h w (do s; pure .skip) undef h' := by
  obtain ⟨w', h1, h2⟩ := k
  exact ⟨R, w', .inr ⟨by simp [h1], rfl⟩, trivial, h2⟩
theorem OpRun.of_plain {P : Program} {R : Map} {h : LH} {w : World} {ρ : Operand → Option Value} {ρr : Operand → Value} {o : Oper} {v : Value} (r : HRel R h w.heap) (hρ : Reads R ρ ρr) (hv : lplain P ρ o = some v) :
    OpRun P R h w (execOp ρr o) v h := by
  obtain ⟨h1, h2⟩ := lplain_ok (w := w) hρ hv
  exact ⟨R, w, .inl h1, h2, Goes.refl r⟩
end
end Go.Proofs.YtedfhallhpkkhaaGreatDoor.X
/- One operation of the model on the local heap is one operation of the model on the real one. Any program. -/
namespace Go.Proofs.YtedfhallhpkkhaaGreatDoor.X
open Go
noncomputable section

theorem lconvert_ok {P : Program} {R : Map} {h h' : LH} {w : World} {src dst : TypeId} {x v : Value} (r : HRel R h w.heap) (hx : wfv R x) (hv : lconvert P h src dst x = some (v, h')) :
    OpOk P R h w (convert src dst (ren R x)) v h' := by
  unfold lconvert at hv
  split at hv
  · rename_i e s hs hd
    split at hv
    case h_2 => cases hv
    rename_i he
    simp only [Option.some.injEq] at hv
    have h1 : v = (lbytesOf h s).1 := by rw [hv]
    have h2 : h' = (lbytesOf h s).2 := by rw [hv]
    subst h1; subst h2
    obtain ⟨R', w', g1, g2, g3⟩ := stringToBytes_ok (P := P) r e s
    refine ⟨R', w', ?_, g2, g3⟩
    simp only [ren, convert, Sem.run_bind, run_underlying hs w, run_underlying hd w, run_underlying he w, Result.andThen_ok]
    exact g1
  · rename_i e a l c hs hd
    split at hv
    case h_2 => cases hv
    rename_i he
    simp only [Option.map_eq_some_iff, Prod.mk.injEq] at hv
    obtain ⟨u, hu, rfl, rfl⟩ := hv
    obtain ⟨g1, g2⟩ := lstring_ok (P := P) r hx hu
    refine ⟨R, w, ?_, g2, Goes.refl r⟩
    cases a <;> (simp only [ren] at g1; simp only [ren, convert, Sem.run_bind, run_underlying hs w, run_underlying hd w, run_underlying he w, Result.andThen_ok]; exact g1)
  · cases hv
theorem eqGuard_any {P : Program} {w : World} {op : BinOp} {t : TypeId} {x y : Operand} {a b : Value} (h1 : a ≠ .nilIface) (h2 : ∀ cs, a ≠ .agg cs) : (eqGuard op t x y a b).run P w = .ok () w := by
  unfold eqGuard
  cases a <;> first
    | exact absurd rfl h1
    | exact absurd rfl (h2 _)
    | (cases op <;> rfl)
theorem eqGuard_ok {P : Program} {R : Map} {w : World} {op : BinOp} {t : TypeId} {x y : Operand} {d : TypeDesc} {a b : Value} {z : Bool} (hv : lnilEq d a b = some z) :
    (eqGuard op t x y (ren R a) (ren R b)).run P w = .ok () w := by
  unfold lnilEq at hv
  split at hv
  all_goals (first | (simp only [Option.some.injEq] at hv; subst hv) | cases hv)
  all_goals exact eqGuard_any (fun h => by simp [ren] at h) (fun cs h => by simp [ren] at h)
theorem eqGuard_str {P : Program} {w : World} {op : BinOp} {t : TypeId} {x y : Operand} {a b : ByteArray} : (eqGuard op t x y (.string a) (.string b)).run P w = .ok () w :=
  eqGuard_any (fun h => by cases h) (fun cs h => by cases h)
theorem lbinOp_ok {P : Program} {R : Map} {w : World} {op : BinOp} {t : TypeId} {x y : Operand} {a b v : Value} (hv : lbinOp P op t a b = some v) :
    (do eqGuard op t x y (ren R a) (ren R b); binOp op t (ren R a) (ren R b) : Sem Value).run P w = .ok (ren R v) w ∧ wfv R v := by
  unfold lbinOp at hv
  split at hv
  · rename_i s u
    obtain ⟨g1, g2⟩ := lstrOp_ok (P := P) (R := R) (w := w) hv
    refine ⟨?_, g2⟩
    simp only [ren, Sem.run_bind, eqGuard_str, Result.andThen_ok]
    cases op <;> first | exact g1 | (simp only [lstrOp] at hv; cases hv)
  · split at hv
    case h_2 => cases hv
    rename_i d hu
    split at hv
    · rename_i z hz
      simp only [Option.some.injEq] at hv
      subst hv
      refine ⟨?_, trivial⟩
      rw [Sem.run_bind, eqGuard_ok hz, Result.andThen_ok]
      have he := lnilEq_ok (P := P) (R := R) (w := w) hu hz
      have : binOp .eql t (ren R a) (ren R b) = (do pure (.bool (← Op.equal t (ren R a) (ren R b)))) := by
        unfold lnilEq at hz
        split at hz
        all_goals (first | (simp only [Option.some.injEq] at hz; subst hz) | cases hz)
        all_goals first | rfl | (rename_i p; cases p <;> rfl) | (rename_i p q r; cases p <;> rfl) | skip
      rw [this]
      simp only [Sem.run_bind, he, Result.andThen_ok, Sem.run_pure, ren]
    · rename_i z hz
      simp only [Option.some.injEq] at hv
      subst hv
      refine ⟨?_, trivial⟩
      rw [Sem.run_bind, eqGuard_ok hz, Result.andThen_ok]
      have he := lnilEq_ok (P := P) (R := R) (w := w) hu hz
      have : binOp .neq t (ren R a) (ren R b) = (do pure (.bool (!(← Op.equal t (ren R a) (ren R b))))) := by
        unfold lnilEq at hz
        split at hz
        all_goals (first | (simp only [Option.some.injEq] at hz; subst hz) | cases hz)
        all_goals first | rfl | (rename_i p; cases p <;> rfl) | (rename_i p q r; cases p <;> rfl) | skip
      rw [this]
      simp only [Sem.run_bind, he, Result.andThen_ok, Sem.run_pure, ren]
    · cases hv
theorem lrange_ok {P : Program} {R : Map} {h h' : LH} {w : World} {t : TypeId} {x v : Value} (r : HRel R h w.heap) (hx : wfv R x) (hv : lrange P h t x = some (v, h')) : OpOk P R h w (Instr.range t (ren R x)) v h' := by
  unfold lrange at hv
  split at hv
  case h_2 => cases hv
  rename_i k e m hu
  split at hv
  case h_2 => cases hv
  rename_i es clk hm
  simp only [Option.some.injEq, Prod.mk.injEq] at hv
  obtain ⟨rfl, rfl⟩ := hv
  simp only [wfv] at hx
  have hext : R.ext (R.put h.next w.heap.size 0) := Map.put_ext (r.fresh _ (Nat.le_refl _))
  obtain ⟨R', w', g1, g2, g3⟩ := newObj_ok (P := P) (o := .obj (.mapIter (some m) clk #[] clk)) (x := .mapIter (some (R.b m)) clk #[] clk) r
    ⟨by simp [renObj, Map.ext_b hext hx], Map.ext_isSome hext hx⟩
  refine ⟨R', w', ?_, ⟨g2, rfl⟩, g3⟩
  simp only [Instr.range, ren, Sem.run_bind, run_underlying hu w, Result.andThen_ok, (getMap_ok (P := P) r hm).1, Sem.run_pure, g1]
theorem lnext_ok {P : Program} {R : Map} {h : LH} {w : World} {x v : Value} {b : Bool} {t : TypeId} (r : HRel R h w.heap) (hv : lnext h x b = some v) : (Instr.next (ren R x) b t).run P w = .ok (ren R v) w ∧ wfv R v := by
  unfold lnext at hv
  split at hv
  case h_2 => cases hv
  rename_i i
  split at hv
  case h_2 => cases hv
  rename_i m since last hi
  split at hv
  case h_2 => cases hv
  rename_i clk hm
  simp only [Option.some.injEq] at hv
  subst hv
  refine ⟨?_, trivial, trivial⟩
  obtain ⟨_, h1, h2⟩ := r.ok i _ hi
  have hg : (getObj (R.b i)).run P w = .ok (.mapIter (some (R.b m)) since #[] last) w := run_getObj_eq (by rw [h1]; rfl) (fun _ _ _ e => by cases e)
  have hgm := (getMap_ok (P := P) r hm).1
  simp only [List.map_nil] at hgm
  simp [Instr.next, ren, hg, hgm, choose, Sem.run, Question.forced, renA, renL]

set_option maxHeartbeats 1000000 in
theorem lop_ok {P : Program} {R : Map} {h h' : LH} {w : World} {ρ : Operand → Option Value} {ρr : Operand → Value} {o : Oper} {v : Value} (r : HRel R h w.heap) (hρ : Reads R ρ ρr) (hv : lop P ρ h o = some (v, h')) :
    OpRun P R h w (execOp ρr o) v h' := by
  have plainly : ∀ {u : Value} {k : LH}, (match lplain P ρ o with | some v => some (v, h) | none => none) = some (u, k) → OpRun P R h w (execOp ρr o) u k := by
    intro u k hk
    cases hp : lplain P ρ o with
    | none => rw [hp] at hk; cases hk
    | some x =>
      rw [hp] at hk
      simp only [Option.some.injEq, Prod.mk.injEq] at hk
      obtain ⟨rfl, rfl⟩ := hk
      exact OpRun.of_plain r hρ hp
  obtain ⟨dst, op, type, pos, after, guard⟩ := o
  unfold lop at hv
  cases op
  case move x =>
    simp only at hv
    split at hv
    case h_2 => cases hv
    rename_i u hu
    simp only [Option.some.injEq, Prod.mk.injEq] at hv
    obtain ⟨rfl, rfl⟩ := hv
    obtain ⟨h1, h2⟩ := hρ x u hu
    exact ⟨R, w, .inl (by simp only [execOp, h1]; rfl), h2, Goes.refl r⟩
  case assign x =>
    simp only at hv
    split at hv
    case h_2 => cases hv
    rename_i u hu
    simp only [Option.some.injEq, Prod.mk.injEq] at hv
    obtain ⟨rfl, rfl⟩ := hv
    obtain ⟨h1, h2⟩ := hρ x u hu
    exact ⟨R, w, .inl (by simp only [execOp, h1]; rfl), h2, Goes.refl r⟩
  case pick c a b =>
    simp only at hv
    split at hv
    case h_2 => cases hv
    rename_i b' va vb hc ha hb
    simp only [Option.some.injEq, Prod.mk.injEq] at hv
    obtain ⟨rfl, rfl⟩ := hv
    have hc' := (hρ c _ hc).1
    obtain ⟨h1, h2⟩ := hρ a _ ha
    obtain ⟨h3, h4⟩ := hρ b _ hb
    refine ⟨R, w, .inl ?_, by cases b' <;> simp [h2, h4], Goes.refl r⟩
    simp only [execOp, hc', ren, Sem.run_bind, asBool, Sem.run_pure, Result.andThen_ok, h1, h3]
    cases b' <;> rfl
  case alloc t =>
    exact OpRun.of_ok (lalloc_ok r hv _)
  case box t x =>
    simp only at hv
    split at hv
    case h_2 => cases hv
    rename_i u hu
    simp only [Option.some.injEq] at hv
    obtain ⟨h1, h2⟩ := hρ x u hu
    have e1 : v = (lnew h u.cells.toList).1 := by rw [hv]
    have e2 : h' = (lnew h u.cells.toList).2 := by rw [hv]
    subst e1; subst e2
    simp only [execOp, h1]
    exact OpRun.of_ok (lbox_ok r h2)
  case build t parts =>
    simp only at hv
    split at hv
    case h_2 => cases hv
    rename_i vs hvs
    split at hv
    case h_2 => cases hv
    rename_i u hu
    simp only [Option.some.injEq, Prod.mk.injEq] at hv
    obtain ⟨rfl, rfl⟩ := hv
    obtain ⟨h1, h2⟩ := evalPartsA_ok hρ hvs
    simp only [execOp, h1]
    exact OpRun.of_pure r (lbuild_ok h2 hu)
  case buildSlice t len parts =>
    simp only at hv
    split at hv
    case h_2 => cases hv
    rename_i vs hvs
    obtain ⟨h1, h2⟩ := evalPartsA_ok hρ hvs
    simp only [execOp, h1]
    exact OpRun.of_ok (lbuildSlice_ok r h2 hv)
  case load t x =>
    simp only at hv
    split at hv
    case h_2 => cases hv
    rename_i a ha
    split at hv
    case h_2 => cases hv
    rename_i u hu
    simp only [Option.some.injEq, Prod.mk.injEq] at hv
    obtain ⟨rfl, rfl⟩ := hv
    obtain ⟨h1, h2⟩ := hρ x a ha
    simp only [execOp, h1]
    exact OpRun.of_pure r (lload_ok r h2 hu)
  case store t x y =>
    simp only at hv
    split at hv
    case h_2 => cases hv
    rename_i a b ha hb
    split at hv
    case h_2 => cases hv
    rename_i k hk
    simp only [Option.some.injEq, Prod.mk.injEq] at hv
    obtain ⟨rfl, rfl⟩ := hv
    obtain ⟨h1, h2⟩ := hρ x a ha
    obtain ⟨h3, h4⟩ := hρ y b hb
    simp only [execOp, h1, h3]
    exact OpRun.of_unit (lstore_ok r h2 h4 hk)
  case nilCheck x =>
    simp only at hv
    split at hv
    case h_2 => cases hv
    rename_i a ha
    simp only [Option.some.injEq, Prod.mk.injEq] at hv
    obtain ⟨rfl, rfl⟩ := hv
    obtain ⟨h1, h2⟩ := hρ x _ ha
    exact ⟨R, w, .inl (by simp only [execOp, h1, ren]; rfl), h2, Goes.refl r⟩
  case binOp op t x y yt =>
    simp only at hv
    split at hv
    case h_2 => cases hv
    rename_i a b ha hb
    split at hv
    · rename_i u hu
      simp only [Option.some.injEq, Prod.mk.injEq] at hv
      obtain ⟨rfl, rfl⟩ := hv
      obtain ⟨h1, h2⟩ := hρ x a ha
      obtain ⟨h3, h4⟩ := hρ y b hb
      simp only [execOp, h1, h3]
      exact OpRun.of_pure r (lbinOp_ok hu)
    · exact plainly hv
  case convert src dst x =>
    simp only at hv
    split at hv
    case h_2 => cases hv
    rename_i a ha
    split at hv
    · rename_i u hu
      simp only [Option.some.injEq] at hv
      subst hv
      obtain ⟨h1, h2⟩ := hρ x a ha
      simp only [execOp, h1]
      exact OpRun.of_ok (lconvert_ok r h2 hu)
    · exact plainly hv
  case makeFunc fn first captured =>
    simp only at hv
    split at hv
    case h_2 => cases hv
    rename_i fs cs hf hc
    split at hv
    case isFalse => cases hv
    rename_i hp
    simp only [Option.some.injEq, Prod.mk.injEq] at hv
    obtain ⟨rfl, rfl⟩ := hv
    obtain ⟨h1, h2⟩ := evalsA_ok hρ hf
    obtain ⟨h3, h4⟩ := evalsA_ok hρ hc
    obtain ⟨h5, h6⟩ := plainFn_ren (R := R) hp
    simp only [execOp, h1, h3]
    exact OpRun.of_pure r ⟨by simp only [Instr.makeFunc, Sem.run_pure, ren, h5], h6, h2, h4⟩
  case makeMap t x =>
    cases x with
    | none =>
      simp only [Option.some.injEq] at hv
      have e1 : v = (lmakeMap h).1 := by rw [hv]
      have e2 : h' = (lmakeMap h).2 := by rw [hv]
      subst e1; subst e2
      exact OpRun.of_ok (lmakeMap_ok r t)
    | some x =>
      simp only at hv
      split at hv
      case h_2 => cases hv
      rename_i a ha
      obtain ⟨h1, h2⟩ := hρ x a ha
      simp only [execOp, Option.map_some, h1]
      exact OpRun.of_ok (lmakeMapHint_ok r hv)
  case makeSlice t x y =>
    simp only at hv
    split at hv
    case h_2 => cases hv
    rename_i a b ha hb
    simp only [execOp, (hρ x a ha).1, (hρ y b hb).1]
    exact OpRun.of_ok (lmakeSlice_ok r hv)
  case slice t x lo hi mx =>
    cases mx with
    | some m => exact plainly hv
    | none =>
      simp only at hv
      split at hv
      case h_2 => cases hv
      rename_i a l u ha hl hu
      split at hv
      · rename_i z hz
        simp only [Option.some.injEq, Prod.mk.injEq] at hv
        obtain ⟨rfl, rfl⟩ := hv
        obtain ⟨h1, h2⟩ := hρ x a ha
        have one : ∀ {q : Option Operand} {vs : List Value}, evals ρ q.toList = some vs → q.map ρr = vs.head?.map (ren R) := by
          intro q vs hq
          have h3 := (evals_ok hρ hq).1
          cases q with
          | none => simp only [Option.toList, List.map_nil] at h3; cases vs with
            | nil => rfl
            | cons => simp at h3
          | some q => simp only [Option.toList, List.map_cons, List.map_nil] at h3; cases vs with
            | nil => simp at h3
            | cons s t => simp at h3; simp [h3.1]
        simp only [execOp, h1, one hl, one hu, Option.map_none]
        exact OpRun.of_pure r (lslice_ok r h2 hz)
      · exact plainly hv
  case fieldAddr t x f =>
    simp only at hv
    split at hv
    case h_2 => cases hv
    rename_i a ha
    split at hv
    case h_2 => cases hv
    rename_i u hu
    simp only [Option.some.injEq, Prod.mk.injEq] at hv
    obtain ⟨rfl, rfl⟩ := hv
    obtain ⟨h1, h2⟩ := hρ x a ha
    simp only [execOp, h1]
    exact OpRun.of_pure r (lfieldAddr_ok h2 hu)
  case field t x f =>
    simp only at hv
    split at hv
    case h_2 => cases hv
    rename_i a ha
    split at hv
    case h_2 => cases hv
    rename_i u hu
    simp only [Option.some.injEq, Prod.mk.injEq] at hv
    obtain ⟨rfl, rfl⟩ := hv
    obtain ⟨h1, h2⟩ := hρ x a ha
    simp only [execOp, h1]
    exact OpRun.of_pure r (lfield_ok h2 hu)
  case indexAddr t x y =>
    simp only at hv
    split at hv
    case h_2 => cases hv
    rename_i a b ha hb
    split at hv
    case h_2 => cases hv
    rename_i u hu
    simp only [Option.some.injEq, Prod.mk.injEq] at hv
    obtain ⟨rfl, rfl⟩ := hv
    obtain ⟨h1, h2⟩ := hρ x a ha
    simp only [execOp, h1, (hρ y b hb).1]
    exact OpRun.of_pure r (lindexAddr_ok h2 hu)
  case index t x y =>
    simp only at hv
    split at hv
    case h_2 => cases hv
    rename_i a b ha hb
    split at hv
    case h_2 => cases hv
    rename_i u hu
    simp only [Option.some.injEq, Prod.mk.injEq] at hv
    obtain ⟨rfl, rfl⟩ := hv
    obtain ⟨h1, h2⟩ := hρ x a ha
    simp only [execOp, h1, (hρ y b hb).1]
    exact OpRun.of_pure r (lindex_ok h2 hu)
  case lookup t x y ok =>
    simp only at hv
    split at hv
    case h_2 => cases hv
    rename_i a b ha hb
    split at hv
    case h_2 => cases hv
    rename_i u hu
    simp only [Option.some.injEq, Prod.mk.injEq] at hv
    obtain ⟨rfl, rfl⟩ := hv
    simp only [execOp, (hρ x a ha).1, (hρ y b hb).1]
    exact OpRun.of_pure r (llookup_ok r hu)
  case mapUpdate t m k x =>
    simp only at hv
    split at hv
    case h_2 => cases hv
    rename_i vm vk vx hm hk hx
    split at hv
    case h_2 => cases hv
    rename_i g hg
    simp only [Option.some.injEq, Prod.mk.injEq] at hv
    obtain ⟨rfl, rfl⟩ := hv
    obtain ⟨h1, h2⟩ := hρ x vx hx
    simp only [execOp, (hρ m vm hm).1, (hρ k vk hk).1, h1]
    exact OpRun.of_unit (lmapUpdate_ok r h2 hg)
  case insert t m k x =>
    simp only at hv
    split at hv
    case h_2 => cases hv
    rename_i vm vk vx hm hk hx
    split at hv
    case h_2 => cases hv
    rename_i g hg
    simp only [Option.some.injEq, Prod.mk.injEq] at hv
    obtain ⟨rfl, rfl⟩ := hv
    obtain ⟨h1, h2⟩ := hρ x vx hx
    simp only [execOp, (hρ m vm hm).1, (hρ k vk hk).1, h1]
    exact OpRun.of_unit (lmapUpdate_ok r h2 hg)
  case mapEntry t m k =>
    simp only at hv
    split at hv
    case h_2 => cases hv
    rename_i vm vk hm hk
    simp only [execOp, (hρ m vm hm).1, (hρ k vk hk).1]
    exact OpRun.of_ok (lmapEntry_ok r hv)
  case entryStore t m s x =>
    simp only at hv
    split at hv
    case h_2 => cases hv
    rename_i vm vs vx hm hs hx
    split at hv
    case h_2 => cases hv
    rename_i g hg
    simp only [Option.some.injEq, Prod.mk.injEq] at hv
    obtain ⟨rfl, rfl⟩ := hv
    obtain ⟨h1, h2⟩ := hρ x vx hx
    simp only [execOp, (hρ m vm hm).1, (hρ s vs hs).1, h1]
    exact OpRun.of_unit (lentryStore_ok r h2 hg)
  case range t x =>
    simp only at hv
    split at hv
    case h_2 => cases hv
    rename_i a ha
    obtain ⟨h1, h2⟩ := hρ x a ha
    simp only [execOp, h1]
    exact OpRun.of_ok (lrange_ok r h2 hv)
  case next x b =>
    simp only at hv
    split at hv
    case h_2 => cases hv
    rename_i a ha
    split at hv
    case h_2 => cases hv
    rename_i u hu
    simp only [Option.some.injEq, Prod.mk.injEq] at hv
    obtain ⟨rfl, rfl⟩ := hv
    simp only [execOp, (hρ x a ha).1]
    exact OpRun.of_pure r (lnext_ok r hu)
  case extract x i =>
    simp only at hv
    split at hv
    case h_2 => cases hv
    rename_i a ha
    split at hv
    case h_2 => cases hv
    rename_i u hu
    simp only [Option.some.injEq, Prod.mk.injEq] at hv
    obtain ⟨rfl, rfl⟩ := hv
    obtain ⟨h1, h2⟩ := hρ x a ha
    simp only [execOp, h1]
    exact OpRun.of_pure r (lextract_ok h2 hu)
  case call c =>
    obtain ⟨callee, args, argTypes⟩ := c
    cases callee with
    | value f => cases hv
    | invoke f m => cases hv
    | builtin b =>
      simp only at hv
      split at hv
      case h_2 => cases hv
      rename_i vs hvs
      split at hv
      · rename_i u hu
        simp only [Option.some.injEq] at hv
        subst hv
        obtain ⟨h1, h2⟩ := evalsA_ok hρ hvs
        unfold lcallB at hu
        split at hu
        · simp only [execOp, resolve, h1, Sem.run_bind]
          obtain ⟨R', w', g1, g2, g3⟩ := lappend_ok (type := type) r h2 hu
          refine ⟨R', w', .inl ?_, g2, g3⟩
          simp only [execOp, resolve, h1, invoke, builtin, Sem.run_bind, Sem.run_pure, Result.andThen_ok, g1]
        · split at hu
          case h_2 => cases hu
          rename_i t x ht
          simp only [Option.map_eq_some_iff, Prod.mk.injEq] at hu
          obtain ⟨z, hz, rfl, rfl⟩ := hu
          obtain ⟨g1, g2⟩ := llen_ok (P := P) (type := type) (args := [x].toArray) r ht rfl hz
          refine ⟨R, w, .inl ?_, g2, Goes.refl r⟩
          simp only [execOp, resolve, h1, invoke, builtin, Sem.run_bind, Sem.run_pure, Result.andThen_ok, g1]
        · cases hu
      · exact plainly hv
  all_goals exact plainly hv
end
end Go.Proofs.YtedfhallhpkkhaaGreatDoor.X
/- The local run of a function's code: one function on what is to be done, by a bound on the depth. Any program. -/
namespace Go.Proofs.YtedfhallhpkkhaaGreatDoor.X
open Go
noncomputable section

/-- The temporaries of an activation, and the blocks of its ranges over functions. -/
structure LAct where
  tmps : T Value
  n : Nat
  marks : List Nat

inductive LExit where
  | normal
  | exit (id : Nat)
  | ret

inductive Task where
  | code (ro : Option Nat) (c : Code) (a : LAct) (h : LH)
  | call (f : FuncId) (args : List Value) (h : LH)
  | round (l : Nat) (args : List Value) (h : LH)
inductive Res where
  | code (e : LExit) (a : LAct) (h : LH)
  | val (v : Value) (h : LH)

/-- What is known of a function from elsewhere: on plain arguments, a plain result. -/
abbrev Orc := FuncId → Option (List Value → Option Value)

def lev (a : LAct) : Operand → Option Value
  | .tmp t => some ((a.tmps.get t).getD undef)
  | .const v => if plain v = true then some v else none
  | .global g => if g = 0 then some (.pointer (some ⟨0, 0, none⟩)) else none
  | .func f => some (.func (.func f) #[] #[])
def LAct.put (a : LAct) (dst : Option Tmp) (v : Value) : Option LAct :=
  match a with
  | ⟨t, n, m⟩ => match dst with
    | none => some ⟨t, n, m⟩
    | some d => if d < n then some ⟨t.set d (some v), n, m⟩ else none

def lyielded (ops : Array Oper) (a : LAct) (j : Nat) : Option Bool :=
  match (ops[j]?).bind (·.dst) with
  | some t => match a.tmps.get t with
    | some (.bool b) => some b
    | _ => none
  | none => none
def lwanted (ops : Array Oper) (a : LAct) (o : Oper) : Bool :=
  match o.guard with
  | none => true
  | some (j, want) => lyielded ops a j == some want

def isPlainFn (P : Program) (f : FuncId) : Bool :=
  match P.funcs[f]? with
  | some fn => !(fn.name == "runtime.NumGoroutine") && fn.body.isSome
  | none => false
def isDefer : Op → Bool
  | .defer _ => true
  | _ => false

section
variable (P : Program) (orc : Orc) (ih : Task → Option Res)

def lfun (h : LH) (f : FuncId) (args : List Value) : Option (Value × LH) :=
  match orc f with
  | some g => if isPlainFn P f = true ∧ plainL args = true then match g args with
      | some v => if plain v = true then some (v, h) else none
      | none => none
    else none
  | none =>
    if isPlainFn P f = true then
      match ih (.call f args h) with
      | some (.val v h') => some (v, h')
      | _ => none
    else if plainL args = true then
      match runP P (callFunc f args.toArray) with
      | some (.value v) => if plain v = true then some (v, h) else none
      | _ => none
    else none
def lcallV (h : LH) (fv : Value) (args : List Value) : Option (Value × LH) :=
  match fv with
  | .func (.func f) fs cs => lfun P orc ih h f (fs.toList ++ args ++ cs.toList)
  | .func (.yield l) fs _ => match ih (.round l (fs.toList ++ args) h) with
    | some (.val v h') => some (v, h')
    | _ => none
  | _ => none
/-- One operation, or a call. -/
def lexec (a : LAct) (h : LH) (o : Oper) : Option (Value × LH) :=
  if isDefer o.op = true then none else
  match o.op with
  | .call ⟨.value fx, args, _⟩ =>
    match lev a fx, evals (lev a) args.toList with
    | some fv, some vs => lcallV P orc ih h fv vs
    | _, _ => none
  | _ => lop P (lev a) h o
def lops (ops : Array Oper) : List Nat → LAct → LH → Option (LAct × LH)
  | [], a, h => some (a, h)
  | i :: l, a, h =>
    match ops[i]? with
    | some o =>
      match (if lwanted ops a o = true then lexec P orc ih a h o else some (undef, h)) with
      | some (v, h') =>
        match a.put o.dst v with
        | some a' => lops ops l a' h'
        | none => none
      | none => none
    | none => none

def lresults (a : LAct) (h : LH) : List ResultVar → Option (List Value)
  | [] => some []
  | .tmp t :: l => match lresults a h l with
    | some vs => some ((a.tmps.get t).getD undef :: vs)
    | none => none
  | .cell t ty :: l => match lload P h ty ((a.tmps.get t).getD undef), lresults a h l with
    | some v, some vs => some (v :: vs)
    | _, _ => none
def lmarks (h : LH) : List Nat → Option LH
  | [] => some h
  | i :: l => match h.get i with
    | some (.obj (.deferred (some []))) => lmarks (h.put i (.obj (.deferred none))) l
    | _ => none
def lenter (n : Nat) : Nat → List Value → T Value → Option (T Value)
  | _, [], t => some t
  | i, v :: l, t => if i < n then lenter n (i + 1) l (t.set i (some v)) else none
def loopAt (h : LH) (i : Nat) : Option LLoop :=
  match h.get i with
  | some (.loop l) => some l
  | _ => none
def lassign : T Value → Nat → List Tmp → List Value → Option (T Value)
  | t, _, [], [] => some t
  | t, n, d :: ds, v :: vs => if d < n then lassign (t.set d (some v)) n ds vs else none
  | _, _, _, _ => none

variable (any : (Task → Option Res) → Array Oper → LAct → LH → Option (LAct × LH))
def lcode (ro : Option Nat) (c : Code) (a : LAct) (h : LH) : Option Res :=
  match c with
  | .skip | .label _ => some (.code .normal a h)
  | .ret => some (.code .ret a h)
  | .exit id => some (.code (.exit id) a h)
  | .region _ ops draw =>
    match (if draw = true then any ih ops a h else lops P orc ih ops (List.range ops.size) a h) with
    | some (a', h') => some (.code .normal a' h')
    | none => none
  | .seq x y =>
    match ih (.code ro x a h) with
    | some (.code .normal a' h') => ih (.code ro y a' h')
    | r => r
  | .cond x c d =>
    match lev a x with
    | some (.bool b) => ih (.code ro (if b = true then c else d) a h)
    | _ => none
  | .block id c =>
    match ih (.code ro c a h) with
    | some (.code (.exit j) a' h') => if j = id then some (.code .normal a' h') else some (.code (.exit j) a' h')
    | r => r
  | .loop c =>
    match ih (.code ro c a h) with
    | some (.code .normal a' h') => ih (.code ro (.loop c) a' h')
    | r => r
  | .rangeFunc g ps assign body =>
    match lev a g with
    | some (.func (.func f) fs cs) =>
      match (match ro with
        | none => some (h.add (.obj (.deferred (some []))), h.next, [h.next])
        | some l => match loopAt h l with
          | some r => some (h, r.defers, [])
          | none => none) with
      | some (h1, d, mark) =>
        let h2 := h1.add (.loop { state := .ready, pending := none, tmps := a.tmps, n := a.n, params := ps, assign, body, defers := d })
        if isPlainFn P f = true then
        match ih (.call f (fs.toList ++ [.func (.yield h1.next) #[] #[]] ++ cs.toList) h2) with
        | some (.val _ h3) =>
          match loopAt h3 h1.next with
          | some r =>
            if r.state = .busy then none else
            let h4 := h3.put h1.next (.loop { r with state := .exhausted })
            let a' : LAct := match a with | ⟨t, n, m⟩ => ⟨t, n, mark ++ m⟩
            match r.pending with
            | none => some (.code .normal a' h4)
            | some .ret => some (.code .ret a' h4)
            | some (.exit id) => some (.code (.exit id) a' h4)
            | _ => none
          | none => none
        | _ => none
        else none
      | none => none
    | _ => none
  | _ => none
def lround (l : Nat) (args : List Value) (h : LH) : Option Res :=
  match loopAt h l with
  | some r =>
    match lassign r.tmps r.n r.params.toList args with
    | some t =>
      match ih (.code (some l) r.assign { tmps := t, n := r.n, marks := [] } h) with
      | some (.code .normal a1 h1) =>
        match loopAt h1 l with
        | some r1 =>
          match r1.state with
          | .ready =>
            match ih (.code (some l) r.body a1 (h1.put l (.loop { r1 with state := .busy }))) with
            | some (.code e _ h2) =>
              match loopAt h2 l with
              | some r2 =>
                match e with
                | .normal => some (.val (.bool true) (h2.put l (.loop { r2 with state := .ready, pending := none })))
                | .ret => some (.val (.bool false) (h2.put l (.loop { r2 with state := .done, pending := some .ret })))
                | .exit id => some (.val (.bool false) (h2.put l (.loop { r2 with state := .done, pending := some (.exit id) })))
              | none => none
            | _ => none
          | _ => none
        | none => none
      | _ => none
    | none => none
  | none => none
def lcallF (f : FuncId) (args : List Value) (h : LH) : Option Res :=
  match P.funcs[f]? with
  | some fn =>
    match fn.body with
    | some c =>
      match lenter fn.ntmps 0 args .nil with
      | some t =>
        match ih (.code none c { tmps := t, n := fn.ntmps, marks := [] } h) with
        | some (.code e a' h') =>
          match e with
          | .exit _ => none
          | _ =>
            match lmarks h' a'.marks with
            | some h'' =>
              match lresults P a' h'' fn.results.toList with
              | some [v] => some (.val v h'')
              | some vs => some (.val (.tuple vs.toArray) h'')
              | none => none
            | none => none
        | _ => none
      | none => none
    | none => none
  | none => none
def lstep (t : Task) : Option Res :=
  match t with
  | .code ro c a h => lcode P orc ih any ro c a h
  | .call f args h => lcallF P ih f args h
  | .round l args h => lround ih l args h
end

def lrun (P : Program) (orc : Orc) (any : (Task → Option Res) → Array Oper → LAct → LH → Option (LAct × LH)) (n : Nat) : Task → Option Res :=
  Nat.rec (fun _ => none) (fun _ ih t => lstep P orc ih any t) n
end
end Go.Proofs.YtedfhallhpkkhaaGreatDoor.X
/- The local run once more, by the recursors themselves, so that the kernel unfolds small terms; equal to the first. Any program. -/
namespace Go.Proofs.YtedfhallhpkkhaaGreatDoor.X
open Go
noncomputable section

def ob {α β : Type} (x : Option α) (f : α → Option β) : Option β := Option.rec (motive := fun _ => Option β) none f x
theorem ob_none {α β : Type} (f : α → Option β) : ob none f = none := rfl
theorem ob_some {α β : Type} (a : α) (f : α → Option β) : ob (some a) f = f a := rfl
def bb {β : Type} (c : Bool) (x y : β) : β := Bool.rec (motive := fun _ => β) y x c
theorem bb_true {β : Type} (x y : β) : bb true x y = x := rfl
theorem bb_false {β : Type} (x y : β) : bb false x y = y := rfl
theorem bb_ite {β : Type} (c : Bool) (x y : β) : bb c x y = if c = true then x else y := by cases c <;> rfl

theorem bb_and (x y z : Bool) : bb x (bb y z false) false = (x && (y && z)) := by cases x <;> cases y <;> rfl

/-! ### Lists -/
def nthF {α : Type} (l : List α) : Nat → Option α := List.rec (motive := fun _ => Nat → Option α) (fun _ => none) (fun x _ ih k => Nat.rec (motive := fun _ => Option α) (some x) (fun j _ => ih j) k) l
theorem nthF_eq {α : Type} : ∀ (l : List α) (k : Nat), nthF l k = l[k]?
  | [], _ => rfl
  | _ :: _, 0 => rfl
  | _ :: l, k + 1 => nthF_eq l k
def lenF {α : Type} (l : List α) : Nat := List.rec (motive := fun _ => Nat) 0 (fun _ _ n => Nat.succ n) l
theorem lenF_eq {α : Type} : ∀ l : List α, lenF l = l.length
  | [] => rfl
  | _ :: l => congrArg Nat.succ (lenF_eq l)
def dropF {α : Type} (k : Nat) (l : List α) : List α := Nat.rec (motive := fun _ => List α → List α) (fun l => l) (fun _ ih l => List.rec (motive := fun _ => List α) [] (fun _ t _ => ih t) l) k l
theorem dropF_eq {α : Type} : ∀ (k : Nat) (l : List α), dropF k l = l.drop k
  | 0, _ => rfl
  | _ + 1, [] => rfl
  | k + 1, _ :: l => dropF_eq k l
def takeF {α : Type} (k : Nat) (l : List α) : List α := Nat.rec (motive := fun _ => List α → List α) (fun _ => []) (fun _ ih l => List.rec (motive := fun _ => List α) [] (fun x t _ => x :: ih t) l) k l
theorem takeF_eq {α : Type} : ∀ (k : Nat) (l : List α), takeF k l = l.take k
  | 0, _ => by rw [List.take_zero]; rfl
  | _ + 1, [] => rfl
  | k + 1, x :: l => congrArg (x :: ·) (takeF_eq k l)
def appF {α : Type} (l m : List α) : List α := List.rec (motive := fun _ => List α) m (fun x _ ih => x :: ih) l
theorem appF_eq {α : Type} : ∀ (l m : List α), appF l m = l ++ m
  | [], _ => rfl
  | x :: l, m => congrArg (x :: ·) (appF_eq l m)

/-! ### Values -/
def plainR (v : Value) : Bool :=
  Value.rec (motive_1 := fun _ => Bool) (motive_2 := fun _ => Bool) (motive_3 := fun _ => Bool)
    (fun _ => true) (fun _ _ => true) (fun _ _ => true) (fun _ _ _ => true) (fun _ => true)
    (fun a => Option.rec (motive := fun _ => Bool) true (fun _ => false) a) (fun a _ _ => Option.rec (motive := fun _ => Bool) true (fun _ => false) a)
    (fun a => Option.rec (motive := fun _ => Bool) true (fun _ => false) a) (fun a => Option.rec (motive := fun _ => Bool) true (fun _ => false) a)
    (fun fn _ _ p q => bb (plainFn fn) (bb p q false) false) true (fun _ _ p => p) true (fun _ p => p) (fun _ p => p)
    (fun _ p => p) true (fun _ _ p q => bb p q false) v
mutual
theorem plainR_eq : ∀ v : Value, plainR v = plain v
  | .bool _ => rfl
  | .int _ _ => rfl
  | .float _ _ => rfl
  | .complex _ _ _ => rfl
  | .string _ => rfl
  | .pointer none => rfl
  | .pointer (some _) => rfl
  | .slice none _ _ => rfl
  | .slice (some _) _ _ => rfl
  | .map none => rfl
  | .map (some _) => rfl
  | .chan none => rfl
  | .chan (some _) => rfl
  | .func fn fs cs => by
    show bb (plainFn fn) (bb _ _ false) false = (plainFn fn && (plainA fs && plainA cs))
    rw [← plainRA_eq fs, ← plainRA_eq cs]
    exact bb_and _ _ _
  | .nilFunc => rfl
  | .iface _ v => plainR_eq v
  | .nilIface => rfl
  | .agg cs => plainRA_eq cs
  | .tuple cs => plainRA_eq cs
theorem plainRA_eq : ∀ a : Array Value, (Value.rec_1 (motive_1 := fun _ => Bool) (motive_2 := fun _ => Bool) (motive_3 := fun _ => Bool)
    (fun _ => true) (fun _ _ => true) (fun _ _ => true) (fun _ _ _ => true) (fun _ => true)
    (fun a => Option.rec (motive := fun _ => Bool) true (fun _ => false) a) (fun a _ _ => Option.rec (motive := fun _ => Bool) true (fun _ => false) a)
    (fun a => Option.rec (motive := fun _ => Bool) true (fun _ => false) a) (fun a => Option.rec (motive := fun _ => Bool) true (fun _ => false) a)
    (fun fn _ _ p q => bb (plainFn fn) (bb p q false) false) true (fun _ _ p => p) true (fun _ p => p) (fun _ p => p)
    (fun _ p => p) true (fun _ _ p q => bb p q false) a : Bool) = plainA a
  | ⟨l⟩ => plainRL_eq l
theorem plainRL_eq : ∀ a : List Value, (Value.rec_2 (motive_1 := fun _ => Bool) (motive_2 := fun _ => Bool) (motive_3 := fun _ => Bool)
    (fun _ => true) (fun _ _ => true) (fun _ _ => true) (fun _ _ _ => true) (fun _ => true)
    (fun a => Option.rec (motive := fun _ => Bool) true (fun _ => false) a) (fun a _ _ => Option.rec (motive := fun _ => Bool) true (fun _ => false) a)
    (fun a => Option.rec (motive := fun _ => Bool) true (fun _ => false) a) (fun a => Option.rec (motive := fun _ => Bool) true (fun _ => false) a)
    (fun fn _ _ p q => bb (plainFn fn) (bb p q false) false) true (fun _ _ p => p) true (fun _ p => p) (fun _ p => p)
    (fun _ p => p) true (fun _ _ p q => bb p q false) a : Bool) = plainL a
  | [] => rfl
  | v :: l => by
    show bb (plainR v) _ false = (plain v && plainL l)
    rw [plainR_eq v, ← plainRL_eq l]
    cases plain v <;> rfl
end
end
end Go.Proofs.YtedfhallhpkkhaaGreatDoor.X
/- The local run once more, by the recursors themselves: one operation. Any program. -/
namespace Go.Proofs.YtedfhallhpkkhaaGreatDoor.X
open Go
noncomputable section

def levTmp (t : Tmp) (a : LAct) : Option Value := some (Option.rec (motive := fun _ => Value) undef (fun v => v) (T.get a.tmps t))
def levConst (v : Value) (_ : LAct) : Option Value := bb (plainR v) (some v) none
def levGlob (g : Nat) (_ : LAct) : Option Value := bb (Nat.beq g 0) (some (.pointer (some ⟨0, 0, none⟩))) none
def levFun (f : FuncId) (_ : LAct) : Option Value := some (.func (.func f) #[] #[])
def levF (x : Operand) (a : LAct) : Option Value := Operand.rec (motive := fun _ => LAct → Option Value) levTmp levConst levGlob levFun x a
theorem levF_eq (x : Operand) (a : LAct) : levF x a = lev a x := by
  cases x with
  | tmp t =>
    show some _ = some _
    cases h : a.tmps.get t <;> simp [h]
  | const v =>
    show bb (plainR v) (some v) none = _
    rw [plainR_eq, bb_ite]; rfl
  | global g =>
    show bb (Nat.beq g 0) _ none = _
    rw [bb_ite]
    cases g with
    | zero => rfl
    | succ n => rfl
  | func f => rfl
def evalsF (a : LAct) (l : List Operand) : Option (List Value) := List.rec (motive := fun _ => Option (List Value)) (some []) (fun x _ ih => ob (levF x a) fun v => ob ih fun vs => some (v :: vs)) l
theorem evalsF_eq (a : LAct) : ∀ l, evalsF a l = evals (lev a) l
  | [] => rfl
  | x :: l => by
    show ob (levF x a) (fun v => ob (evalsF a l) fun vs => some (v :: vs)) = _
    rw [levF_eq, evalsF_eq a l]
    simp only [evals]
    cases lev a x with
    | none => rfl
    | some v => cases evals (lev a) l <;> rfl

def asPtrF (v : Value) : Option Addr :=
  Value.rec (motive_1 := fun _ => Option Addr) (motive_2 := fun _ => PUnit) (motive_3 := fun _ => PUnit)
    (fun _ => none) (fun _ _ => none) (fun _ _ => none) (fun _ _ _ => none) (fun _ => none) (fun a => a) (fun _ _ _ => none) (fun _ => none) (fun _ => none) (fun _ _ _ _ _ => none) none (fun _ _ _ => none) none (fun _ _ => none) (fun _ _ => none)
    (fun _ _ => ⟨⟩) ⟨⟩ (fun _ _ _ _ => ⟨⟩) v
def asIntF (v : Value) : Option (IntKind × Int) :=
  Value.rec (motive_1 := fun _ => Option (IntKind × Int)) (motive_2 := fun _ => PUnit) (motive_3 := fun _ => PUnit)
    (fun _ => none) (fun k n => some (k, n)) (fun _ _ => none) (fun _ _ _ => none) (fun _ => none) (fun _ => none) (fun _ _ _ => none) (fun _ => none) (fun _ => none) (fun _ _ _ _ _ => none) none (fun _ _ _ => none) none (fun _ _ => none) (fun _ _ => none)
    (fun _ _ => ⟨⟩) ⟨⟩ (fun _ _ _ _ => ⟨⟩) v
def asTupF (v : Value) : Option (Array Value) :=
  Value.rec (motive_1 := fun _ => Option (Array Value)) (motive_2 := fun _ => PUnit) (motive_3 := fun _ => PUnit)
    (fun _ => none) (fun _ _ => none) (fun _ _ => none) (fun _ _ _ => none) (fun _ => none) (fun _ => none) (fun _ _ _ => none) (fun _ => none) (fun _ => none) (fun _ _ _ _ _ => none) none (fun _ _ _ => none) none (fun _ _ => none) (fun vs _ => some vs)
    (fun _ _ => ⟨⟩) ⟨⟩ (fun _ _ _ _ => ⟨⟩) v
def asFunF (v : Value) : Option (Fn × Array Value × Array Value) :=
  Value.rec (motive_1 := fun _ => Option (Fn × Array Value × Array Value)) (motive_2 := fun _ => PUnit) (motive_3 := fun _ => PUnit)
    (fun _ => none) (fun _ _ => none) (fun _ _ => none) (fun _ _ _ => none) (fun _ => none) (fun _ => none) (fun _ _ _ => none) (fun _ => none) (fun _ => none) (fun f a b _ _ => some (f, a, b)) none (fun _ _ _ => none) none (fun _ _ => none) (fun _ _ => none)
    (fun _ _ => ⟨⟩) ⟨⟩ (fun _ _ _ _ => ⟨⟩) v
def asSlcF (v : Value) : Option (Option Addr × Nat) :=
  Value.rec (motive_1 := fun _ => Option (Option Addr × Nat)) (motive_2 := fun _ => PUnit) (motive_3 := fun _ => PUnit)
    (fun _ => none) (fun _ _ => none) (fun _ _ => none) (fun _ _ _ => none) (fun _ => none) (fun _ => none) (fun a n _ => some (a, n)) (fun _ => none) (fun _ => none) (fun _ _ _ _ _ => none) none (fun _ _ _ => none) none (fun _ _ => none) (fun _ _ => none)
    (fun _ _ => ⟨⟩) ⟨⟩ (fun _ _ _ _ => ⟨⟩) v
def cellsF (h : LH) (i : Nat) : Option (List Value × Nat) :=
  ob (T.get h.t i) fun o => LO.rec (motive := fun _ => Option (List Value × Nat)) (fun c e => some (c, e)) (fun _ _ => none) (fun _ => none) (fun _ => none) o
theorem cellsF_eq (h : LH) (i : Nat) : cellsF h i = cellsAt h i := by
  unfold cellsF cellsAt LH.get
  cases h.t.get i with
  | none => rfl
  | some o => cases o <;> rfl

/-! ### Load, store, addresses -/
def lload4 (t : TypeId) (off : Nat) (c : List Value) (i : TypeInfo) : Option Value := bb (Nat.ble (off + i.size) (lenF c)) (some (.agg ⟨takeF i.size (dropF off c)⟩)) none
def lload3 (P : Program) (t : TypeId) (off : Nat) (c : List Value) (b : Bool) : Option Value := bb b (ob (P.info? t) (lload4 t off c)) (nthF c off)
def gloadF (P : Program) (t : TypeId) (off : Nat) : Option Value := ob (runP P (isAgg t)) fun b => bb b none (nthF gconst off)
def lloadF (P : Program) (h : LH) (t : TypeId) (x : Value) : Option Value :=
  ob (asPtrF x) fun a => Option.rec (motive := fun _ => Option Value) (bb (Nat.beq a.block 0) (gloadF P t a.off) none) (fun p => ob (runP P (isAgg t)) (lload3 P t a.off p.1)) (cellsF h a.block)
theorem lloadF_eq (P : Program) (h : LH) (t : TypeId) (x : Value) : lloadF P h t x = lload P h t x := by
  unfold lloadF lload
  cases x with
  | pointer a =>
    cases a with
    | none => rfl
    | some a =>
      show Option.rec (motive := fun _ => Option Value) (bb (Nat.beq a.block 0) (gloadF P t a.off) none) (fun p => ob (runP P (isAgg t)) (lload3 P t a.off p.1)) (cellsF h a.block) = _
      rw [cellsF_eq]
      simp only
      cases cellsAt h a.block with
      | none =>
        simp only
        by_cases h0 : a.block = 0
        · rw [if_pos h0, h0]
          show gloadF P t a.off = _
          unfold gloadF
          cases runP P (isAgg t) with
          | none => rfl
          | some b => cases b with
            | true => rfl
            | false => exact nthF_eq gconst a.off
        · rw [if_neg h0]
          have : Nat.beq a.block 0 = false := by
            cases hb : Nat.beq a.block 0 with
            | false => rfl
            | true => exact absurd (Nat.eq_of_beq_eq_true hb) h0
          rw [this]; rfl
      | some p =>
        obtain ⟨c, e⟩ := p
        simp only [ob_some]
        cases runP P (isAgg t) with
        | none => rfl
        | some b =>
          cases b with
          | false => exact nthF_eq c a.off
          | true =>
            show ob (P.info? t) _ = _
            simp only
            cases P.info? t with
            | none => rfl
            | some i =>
              simp only [ob_some, lload4, lenF_eq, takeF_eq, dropF_eq]
              by_cases hle : a.off + i.size ≤ c.length
              · rw [if_pos hle, Nat.ble_eq_true_of_le hle]; rfl
              · rw [if_neg hle]
                have : Nat.ble (a.off + i.size) c.length = false := by
                  cases hb : Nat.ble (a.off + i.size) c.length with
                  | false => rfl
                  | true => exact absurd (Nat.le_of_ble_eq_true hb) hle
                rw [this]; rfl
  | _ => rfl

def addF (a : Addr) (n : Nat) : Addr := Nat.rec (motive := fun _ => Addr) a (fun _ _ => ⟨a.block, a.off + n, none⟩) n
theorem addF_eq (a : Addr) (n : Nat) : addF a n = a.add n := by
  cases n with
  | zero => rfl
  | succ n => simp [addF, Addr.add]
def fieldsF (d : TypeDesc) : Option (Array Field) := TypeDesc.rec (motive := fun _ => Option (Array Field)) none none (fun _ => none) (fun _ => none) (fun _ => none) none none (fun _ => none) (fun _ => none) (fun _ _ => none) (fun _ _ => none) (fun _ _ => none) (fun fs => some fs) (fun _ _ _ => none) (fun _ => none) (fun _ => none) (fun _ _ => none) d
def fieldF (P : Program) (t : TypeId) (f : Nat) : Option Nat :=
  ob (P.underlying t) fun d => ob (fieldsF d) fun fs => ob (nthF fs.toList f) fun fd => ob (P.info? fd.type) fun i => bb (Nat.beq i.size 0) none (some fd.offset)
def lfieldAddrF (P : Program) (t : TypeId) (x : Value) (f : Nat) : Option Value := ob (asPtrF x) fun a => ob (fieldF P t f) fun n => some (.pointer (some (addF a n)))
theorem lfieldAddrF_eq (P : Program) (t : TypeId) (x : Value) (f : Nat) : lfieldAddrF P t x f = lfieldAddr P t x f := by
  have hnone : (∀ a, x ≠ .pointer (some a)) → lfieldAddr P t x f = none := by
    intro hx
    unfold lfieldAddr
    split
    · split
      · split
        · rename_i a _ _; exact absurd rfl (hx a)
        · rfl
      · rfl
    · rfl
  cases x with
  | pointer a =>
    cases a with
    | none => rw [hnone (fun a h => by cases h)]; rfl
    | some a =>
      show ob (fieldF P t f) _ = _
      unfold lfieldAddr fieldF
      cases P.underlying t with
      | none => rfl
      | some d =>
        cases d with
        | struct fs =>
          show ob (ob (nthF fs.toList f) _) _ = _
          rw [nthF_eq, Array.getElem?_toList]
          simp only
          cases fs[f]? with
          | none => rfl
          | some fd =>
            simp only [ob_some]
            cases P.info? fd.type with
            | none => rfl
            | some i =>
              simp only [ob_some]
              cases hz : i.size with
              | zero => rfl
              | succ n =>
                show some _ = _
                rw [if_neg (by omega), addF_eq]
        | _ => rfl
  | _ => rw [hnone (fun a h => by cases h)]; rfl

/-! ### Whole numbers -/
def intAddF (x y : Int) : Int := Int.rec (motive := fun _ => Int) (fun m => Int.rec (motive := fun _ => Int) (fun n => Int.ofNat (Nat.add m n)) (fun _ => x + y) y) (fun _ => x + y) x
theorem intAddF_eq (x y : Int) : intAddF x y = x + y := by cases x <;> cases y <;> rfl
def intEqF (x y : Int) : Bool := Int.rec (motive := fun _ => Bool) (fun m => Int.rec (motive := fun _ => Bool) (fun n => Nat.beq m n) (fun _ => false) y) (fun m => Int.rec (motive := fun _ => Bool) (fun _ => false) (fun n => Nat.beq m n) y) x
theorem nat_beq (m n : Nat) : Nat.beq m n = decide (m = n) := by
  by_cases h : m = n
  · subst h; simp
  · have : Nat.beq m n = false := by
      cases hb : Nat.beq m n with
      | false => rfl
      | true => exact absurd (Nat.eq_of_beq_eq_true hb) h
    simp [this, h]
theorem nat_ble (m n : Nat) : Nat.ble m n = decide (m ≤ n) := by
  by_cases h : m ≤ n
  · simp [h, Nat.ble_eq_true_of_le h]
  · have : Nat.ble m n = false := by
      cases hb : Nat.ble m n with
      | false => rfl
      | true => exact absurd (Nat.le_of_ble_eq_true hb) h
    simp [this, h]
theorem intEqF_eq (x y : Int) : intEqF x y = (x == y) := by
  have h : (x == y) = decide (x = y) := rfl
  rw [h]
  cases x with
  | ofNat m => cases y with
    | ofNat n => show Nat.beq m n = _; rw [nat_beq]; simp; omega
    | negSucc n => show false = _; symm; simp
  | negSucc m => cases y with
    | ofNat n => show false = _; symm; simp
    | negSucc n => show Nat.beq m n = _; rw [nat_beq]; simp
def intLtF (x y : Int) : Bool := Int.rec (motive := fun _ => Bool) (fun m => Int.rec (motive := fun _ => Bool) (fun n => Nat.ble (Nat.succ m) n) (fun _ => false) y) (fun m => Int.rec (motive := fun _ => Bool) (fun _ => true) (fun n => Nat.ble (Nat.succ n) m) y) x
theorem intLtF_eq (x y : Int) : intLtF x y = decide (x < y) := by
  cases x with
  | ofNat m => cases y with
    | ofNat n => show Nat.ble (m + 1) n = _; rw [nat_ble]; simp; omega
    | negSucc n => show false = _; symm; simp; omega
  | negSucc m => cases y with
    | ofNat n => show true = _; symm; simp; omega
    | negSucc n => show Nat.ble (n + 1) m = _; rw [nat_ble]; simp; omega
def modF (k : IntKind) : Nat := IntKind.rec (motive := fun _ => Nat) 0 0 0 0 256 65536 4294967296 18446744073709551616 k
def bitsF (k : IntKind) : Nat := IntKind.rec (motive := fun _ => Nat) 0 0 0 0 8 16 32 64 k
theorem modF_bits {k : IntKind} (h : modF k ≠ 0) : modF k = 2 ^ k.bits ∧ k.signed = false ∧ bitsF k = k.bits := by
  cases k <;> first | exact absurd rfl h | exact ⟨rfl, rfl, rfl⟩
theorem wrap_mod {k : IntKind} (h : modF k ≠ 0) (m : Nat) : k.wrap (Int.ofNat m) = Int.ofNat (m % modF k) := by
  obtain ⟨h1, h2, _⟩ := modF_bits h
  simp only [IntKind.wrap, h2, Bool.false_and, Bool.false_eq_true, if_false, h1]
  exact (Int.natCast_emod m (2 ^ k.bits)).symm ▸ by simp
def wrapS (k : IntKind) (n : Int) : Int :=
  bb (IntKind.rec (motive := fun _ => Bool) false false false true false false false false k) (Int.rec (motive := fun _ => Int) (fun m => bb (Nat.ble m 9223372036854775807) (Int.ofNat m) (k.wrap n)) (fun m => bb (Nat.ble m 9223372036854775807) (Int.negSucc m) (k.wrap n)) n) (k.wrap n)
theorem wrapS_eq (k : IntKind) (n : Int) : wrapS k n = k.wrap n := by
  cases k <;> try rfl
  cases n with
  | ofNat m =>
    show bb (Nat.ble m 9223372036854775807) (Int.ofNat m) _ = _
    rw [bb_ite]
    split
    · rename_i h
      rw [nat_ble] at h
      rw [IntKind.wrap_i64]
      simp at h ⊢
      omega
    · rfl
  | negSucc m =>
    show bb (Nat.ble m 9223372036854775807) (Int.negSucc m) _ = _
    rw [bb_ite]
    split
    · rename_i h
      rw [nat_ble] at h
      rw [IntKind.wrap_i64]
      simp at h
      omega
    · rfl
def wrapF (k : IntKind) (n : Int) : Int := bb (Nat.beq (modF k) 0) (wrapS k n) (Int.rec (motive := fun _ => Int) (fun m => Int.ofNat (Nat.mod m (modF k))) (fun _ => k.wrap n) n)
theorem wrapF_eq (k : IntKind) (n : Int) : wrapF k n = k.wrap n := by
  unfold wrapF
  rw [bb_ite, nat_beq]
  by_cases h : modF k = 0
  · rw [if_pos (by simpa using h), wrapS_eq]
  · rw [if_neg (by simpa using h)]
    cases n with
    | ofNat m => exact (wrap_mod h m).symm
    | negSucc m => rfl
/-- A bit operation on two whole numbers of one kind without a sign. -/
def bitOpF (f : Nat → Nat → Nat) (k : IntKind) (x y : Int) : Option Value :=
  bb (Nat.beq (modF k) 0) none (Int.rec (motive := fun _ => Option Value) (fun m => Int.rec (motive := fun _ => Option Value) (fun n => some (.int k (Int.ofNat (f (Nat.mod m (modF k)) (Nat.mod n (modF k)))))) (fun _ => none) y) (fun _ => none) x)
theorem bitOpF_some {f : Nat → Nat → Nat} {k : IntKind} {x y : Int} {v : Value} (h : bitOpF f k x y = some v) : modF k ≠ 0 ∧ ∃ m n, x = Int.ofNat m ∧ y = Int.ofNat n ∧ v = .int k (Int.ofNat (f (m % modF k) (n % modF k))) := by
  unfold bitOpF at h
  rw [bb_ite, nat_beq] at h
  split at h
  · cases h
  · rename_i h0
    refine ⟨by simpa using h0, ?_⟩
    cases x with
    | negSucc m => cases h
    | ofNat m =>
      cases y with
      | negSucc n => cases h
      | ofNat n =>
        simp only [Option.some.injEq] at h
        exact ⟨m, n, rfl, rfl, h.symm⟩
theorem bits_back {k : IntKind} (h : modF k ≠ 0) {r : Nat} (hr : r < 2 ^ k.bits) : k.wrap (r : Nat) = Int.ofNat r := by
  have := wrap_mod h r
  rw [(modF_bits h).1, Nat.mod_eq_of_lt hr] at this
  exact this
theorem ofInt_nat (w m : Nat) : (BitVec.ofInt w (Int.ofNat m)).toNat = m % 2 ^ w := by
  have : BitVec.ofInt w (Int.ofNat m) = BitVec.ofNat w m := BitVec.ofInt_natCast w m
  rw [this, BitVec.toNat_ofNat]
theorem bitOpF_eq {op : BinOp} {f : Nat → Nat → Nat} {k : IntKind} {x y : Int} {v : Value} (t : TypeId) (h : bitOpF f k x y = some v)
    (hop : (op = .and ∧ f = Nat.land) ∨ (op = .or ∧ f = Nat.lor) ∨ (op = .xor ∧ f = Nat.xor)) : binOp op t (.int k x) (.int k y) = pure v ∧ plain v = true := by
  obtain ⟨h0, m, n, rfl, rfl, rfl⟩ := bitOpF_some h
  refine ⟨?_, rfl⟩
  have hm : m % 2 ^ k.bits < 2 ^ k.bits := Nat.mod_lt _ (Nat.two_pow_pos _)
  have hn : n % 2 ^ k.bits < 2 ^ k.bits := Nat.mod_lt _ (Nat.two_pow_pos _)
  rcases hop with ⟨rfl, rfl⟩ | ⟨rfl, rfl⟩ | ⟨rfl, rfl⟩
  · simp only [binOp, ne_eq, not_true_eq_false, if_false, Op.intBits, BitVec.toNat_and, ofInt_nat]
    rw [bits_back h0 (Nat.and_lt_two_pow _ hn), (modF_bits h0).1]; rfl
  · simp only [binOp, ne_eq, not_true_eq_false, if_false, Op.intBits, BitVec.toNat_or, ofInt_nat]
    rw [bits_back h0 (Nat.or_lt_two_pow hm hn), (modF_bits h0).1]; rfl
  · simp only [binOp, ne_eq, not_true_eq_false, if_false, Op.intBits, BitVec.toNat_xor, ofInt_nat]
    rw [bits_back h0 (Nat.xor_lt_two_pow hm hn), (modF_bits h0).1]; rfl
/-- A shift of a whole number without a sign. -/
def shlF (k : IntKind) (x y : Int) : Option Value :=
  bb (Nat.beq (modF k) 0) none (Int.rec (motive := fun _ => Option Value) (fun m => Int.rec (motive := fun _ => Option Value) (fun n => some (.int k (Int.ofNat (Nat.mod (Nat.mul m (Nat.pow 2 (bb (Nat.ble n (bitsF k)) n (bitsF k)))) (modF k))))) (fun _ => none) y) (fun _ => none) x)
def shrF (k : IntKind) (x y : Int) : Option Value :=
  bb (Nat.beq (modF k) 0) none (Int.rec (motive := fun _ => Option Value) (fun m => Int.rec (motive := fun _ => Option Value) (fun n => some (.int k (Int.ofNat (Nat.div m (Nat.pow 2 (bb (Nat.ble n (bitsF k)) n (bitsF k))))))) (fun _ => none) y) (fun _ => none) x)
theorem min_F (n b : Nat) : bb (Nat.ble n b) n b = min n b := by
  rw [bb_ite, nat_ble]
  by_cases h : n ≤ b
  · rw [if_pos (by simpa using h), Nat.min_eq_left h]
  · rw [if_neg (by simpa using h), Nat.min_eq_right (by omega)]
def shiftF (op : BinOp) (k : IntKind) (x y : Int) : Option Value := BinOp.rec (motive := fun _ => Option Value) none none none none none none none none (shlF k x y) (shrF k x y) none none none none none none none op
theorem shiftF_eq {op : BinOp} {j k : IntKind} {x y : Int} {v : Value} (t : TypeId) (h : shiftF op j x y = some v) : binOp op t (.int j x) (.int k y) = pure v ∧ plain v = true := by
  cases op <;> try (cases h; done)
  case shl =>
    have h : shlF j x y = some v := h
    unfold shlF at h
    rw [bb_ite, nat_beq] at h
    split at h
    · cases h
    · rename_i h0
      have h0 : modF j ≠ 0 := by simpa using h0
      cases x with
      | negSucc m => cases h
      | ofNat m =>
        cases y with
        | negSucc n => cases h
        | ofNat n =>
          simp only [Option.some.injEq] at h
          subst h
          refine ⟨?_, rfl⟩
          simp only [binOp, Op.shift]
          rw [if_neg (by simp), min_F, (modF_bits h0).2.2]
          have : (Int.ofNat m * 2 ^ min (Int.ofNat n).toNat j.bits : Int) = Int.ofNat (m * 2 ^ min n j.bits) := by simp
          rw [this, wrap_mod h0]
          rfl
  case shr =>
    have h : shrF j x y = some v := h
    unfold shrF at h
    rw [bb_ite, nat_beq] at h
    split at h
    · cases h
    · rename_i h0
      have h0 : modF j ≠ 0 := by simpa using h0
      cases x with
      | negSucc m => cases h
      | ofNat m =>
        cases y with
        | negSucc n => cases h
        | ofNat n =>
          simp only [Option.some.injEq] at h
          subst h
          refine ⟨?_, rfl⟩
          simp only [binOp, Op.shift]
          rw [if_neg (by simp), min_F, (modF_bits h0).2.2]
          have : (Int.ofNat m).fdiv (2 ^ min (Int.ofNat n).toNat j.bits : Int) = Int.ofNat (m / 2 ^ min n j.bits) := by
            have e : (2 ^ min (Int.ofNat n).toNat j.bits : Int) = ((2 ^ min n j.bits : Nat) : Int) := by simp
            rw [e]
            exact (Int.ofNat_fdiv m _).symm
          rw [this]
          rfl
def kindF (j k : IntKind) : Bool :=
  IntKind.rec (motive := fun _ => Bool) (IntKind.rec (motive := fun _ => Bool) true false false false false false false false k) (IntKind.rec (motive := fun _ => Bool) false true false false false false false false k)
    (IntKind.rec (motive := fun _ => Bool) false false true false false false false false k) (IntKind.rec (motive := fun _ => Bool) false false false true false false false false k)
    (IntKind.rec (motive := fun _ => Bool) false false false false true false false false k) (IntKind.rec (motive := fun _ => Bool) false false false false false true false false k)
    (IntKind.rec (motive := fun _ => Bool) false false false false false false true false k) (IntKind.rec (motive := fun _ => Bool) false false false false false false false true k) j
theorem kindF_eq {j k : IntKind} (h : kindF j k = true) : j = k := by cases j <;> cases k <;> first | rfl | cases h

/-! ### Elements -/
def elemOf (P : Program) (t : TypeId) : Option (Option Nat × Nat) :=
  match P.underlying t with
  | some (.array len elem) => (P.info? elem).map fun ie => (some len, ie.size)
  | some (.slice elem) => (P.info? elem).map fun ie => (none, ie.size)
  | _ => none
def idxF (sz n lim : Nat) (a : Addr) : Option Value := bb (Nat.ble (Nat.succ n) lim) (some (.pointer (some (addF a (Nat.mul n sz))))) none
theorem idxF_eq (sz n lim : Nat) (a : Addr) : idxF sz n lim a = if 0 ≤ (Int.ofNat n) ∧ (Int.ofNat n) < (lim : Int) then some (.pointer (some (a.add ((Int.ofNat n).toNat * sz)))) else none := by
  unfold idxF
  rw [bb_ite, nat_ble, addF_eq]
  by_cases h : n < lim
  · have h1 : Nat.succ n ≤ lim := h
    rw [if_pos (by simpa using h1), if_pos (by constructor <;> simp <;> omega)]; rfl
  · have h1 : ¬ Nat.succ n ≤ lim := h
    rw [if_neg (by simpa using h1), if_neg (by simp; omega)]
def lindexAddrF (P : Program) (t : TypeId) (x ix : Value) : Option Value :=
  ob (asIntF ix) fun ki => Int.rec (motive := fun _ => Option Value) (fun n => ob (elemOf P t) fun le => Option.rec (motive := fun _ => Option Value) (ob (asSlcF x) fun al => ob al.1 fun a => idxF le.2 n al.2 a) (fun len => ob (asPtrF x) fun a => idxF le.2 n len a) le.1) (fun _ => none) ki.2
theorem lindexAddrF_eq (P : Program) (t : TypeId) (x ix : Value) : lindexAddrF P t x ix = lindexAddr P t x ix := by
  unfold lindexAddrF lindexAddr
  cases ix <;> try rfl
  rename_i k i
  show Int.rec (motive := fun _ => Option Value) (fun n => ob (elemOf P t) fun le => Option.rec (motive := fun _ => Option Value) (ob (asSlcF x) fun al => ob al.1 fun a => idxF le.2 n al.2 a) (fun len => ob (asPtrF x) fun a => idxF le.2 n len a) le.1) (fun _ => none) i = _
  cases i with
  | negSucc n =>
    simp only
    split
    · split
      · rw [if_neg (by omega)]
      · rfl
    · split
      · rw [if_neg (by omega)]
      · rfl
    · rfl
  | ofNat n =>
    simp only [elemOf]
    cases hu : P.underlying t with
    | none => rfl
    | some d =>
      cases d <;> try rfl
      case array len elem =>
        cases x <;> try (simp only; cases P.info? elem <;> rfl)
        rename_i a
        cases a with
        | none => simp only; cases P.info? elem <;> rfl
        | some a =>
          simp only
          cases P.info? elem with
          | none => rfl
          | some ie => exact idxF_eq _ _ _ _
      case slice elem =>
        cases x <;> try (simp only; cases P.info? elem <;> rfl)
        rename_i a l c
        cases a with
        | none => simp only; cases P.info? elem <;> rfl
        | some a =>
          simp only
          cases P.info? elem with
          | none => rfl
          | some ie => exact idxF_eq _ _ _ _
end
end Go.Proofs.YtedfhallhpkkhaaGreatDoor.X
/- The local run once more, by the recursors themselves: all operations, regions, code. Any program. -/
namespace Go.Proofs.YtedfhallhpkkhaaGreatDoor.X
open Go
noncomputable section

abbrev D := Program → Orc → (Task → Option Res) → LAct → LH → Oper → Option (Value × LH)
/-- As it was. -/
def dSlow : D := fun P orc ih a h o => lexec P orc ih a h o
def dMove (x : Operand) : D := fun _ _ _ a h _ => ob (levF x a) fun v => some (v, h)
def dLoad (t : TypeId) (x : Operand) : D := fun P _ _ a h _ => ob (levF x a) fun v => ob (lloadF P h t v) fun u => some (u, h)
def dField (t : TypeId) (x : Operand) (f : Nat) : D := fun P _ _ a h _ => ob (levF x a) fun v => ob (lfieldAddrF P t v f) fun u => some (u, h)
def dIdx (t : TypeId) (x y : Operand) : D := fun P _ _ a h _ => ob (levF x a) fun v => ob (levF y a) fun i => ob (lindexAddrF P t v i) fun u => some (u, h)
def dNil (x : Operand) : D := fun _ _ _ a h _ => ob (levF x a) fun v => ob (asPtrF v) fun p => some (.pointer (some p), h)
def dExtract (x : Operand) (i : Nat) : D := fun _ _ _ a h _ => ob (levF x a) fun v => ob (asTupF v) fun vs => ob (nthF vs.toList i) fun u => some (u, h)
def intOpF (op : BinOp) (k : IntKind) (x y : Int) : Option Value :=
  BinOp.rec (motive := fun _ => Option Value) (some (.int k (wrapF k (intAddF x y)))) (some (.int k (wrapF k (x - y)))) (some (.int k (wrapF k (x * y)))) none none (bitOpF Nat.land k x y) (bitOpF Nat.lor k x y) (bitOpF Nat.xor k x y) none none none
    (some (.bool (intEqF x y))) (some (.bool (not (intEqF x y)))) (some (.bool (intLtF x y))) (some (.bool (not (intLtF y x)))) (some (.bool (intLtF y x))) (some (.bool (not (intLtF x y)))) op
def dInt3 (op : BinOp) (p q : IntKind × Int) (h : LH) (slow : Option (Value × LH)) : Option (Value × LH) :=
  Option.rec (motive := fun _ => Option (Value × LH)) (bb (kindF p.1 q.1) (Option.rec (motive := fun _ => Option (Value × LH)) slow (fun v => some (v, h)) (intOpF op p.1 p.2 q.2)) slow) (fun v => some (v, h)) (shiftF op p.1 p.2 q.2)
def dInt2 (op : BinOp) (u v : Value) (h : LH) (slow : Option (Value × LH)) : Option (Value × LH) :=
  Option.rec (motive := fun _ => Option (Value × LH)) slow (fun p => Option.rec (motive := fun _ => Option (Value × LH)) slow (fun q => dInt3 op p q h slow) (asIntF v)) (asIntF u)
def dBin (op : BinOp) (_ : TypeId) (x y : Operand) (_ : TypeId) : D := fun P orc ih a h o => ob (levF x a) fun u => ob (levF y a) fun v => dInt2 op u v h (lexec P orc ih a h o)

def resVal (r : Res) : Option (Value × LH) := Res.rec (motive := fun _ => Option (Value × LH)) (fun _ _ _ => none) (fun v h => some (v, h)) r
def lfunF (P : Program) (orc : Orc) (ih : Task → Option Res) (h : LH) (f : FuncId) (args : List Value) : Option (Value × LH) :=
  Option.rec (motive := fun _ => Option (Value × LH)) (bb (isPlainFn P f) (ob (ih (.call f args h)) resVal) (lfun P orc ih h f args)) (fun _ => lfun P orc ih h f args) (orc f)
def dCallF (P : Program) (orc : Orc) (ih : Task → Option Res) (h : LH) (fv : Value) (vs : List Value) (p : Fn × Array Value × Array Value) : Option (Value × LH) :=
  Fn.rec (motive := fun _ => Option (Value × LH)) (fun f => lfunF P orc ih h f (appF p.2.1.toList (appF vs p.2.2.toList))) (fun _ => lcallV P orc ih h fv vs) (fun _ _ => lcallV P orc ih h fv vs) (fun _ _ _ _ => lcallV P orc ih h fv vs) (fun _ => lcallV P orc ih h fv vs) p.1
def dCall2 (c : Call) (fx : Operand) : D := fun P orc ih a h _ => ob (levF fx a) fun fv => ob (evalsF a c.args.toList) fun vs => ob (asFunF fv) (dCallF P orc ih h fv vs)
def dCall (c : Call) : D := fun P orc ih a h o => Callee.rec (motive := fun _ => Option (Value × LH)) (fun fx => dCall2 c fx P orc ih a h o) (fun _ _ => lexec P orc ih a h o) (fun _ => lexec P orc ih a h o) c.callee

def lexecF : D := fun P orc ih a h o =>
  Op.rec (motive := fun _ => D) dMove dMove (fun _ _ _ => dSlow) (fun _ => dSlow) (fun _ _ => dSlow) (fun _ _ => dSlow) (fun _ _ _ => dSlow) (fun _ _ _ _ => dSlow) dLoad (fun _ _ _ => dSlow) (fun _ => dSlow) (fun _ => dSlow) dNil dBin
    (fun _ _ _ => dSlow) (fun _ _ _ => dSlow) (fun _ _ => dSlow) (fun _ _ => dSlow) (fun _ _ _ => dSlow) (fun _ _ => dSlow) (fun _ _ => dSlow) (fun _ _ _ => dSlow) (fun _ _ _ _ _ => dSlow) dField (fun _ _ _ => dSlow) dIdx (fun _ _ _ => dSlow)
    (fun _ _ _ _ => dSlow) (fun _ _ _ _ => dSlow) (fun _ _ _ => dSlow) (fun _ _ _ _ => dSlow) (fun _ _ => dSlow) (fun _ _ => dSlow) (fun _ => dSlow) (fun _ _ _ _ => dSlow) dExtract dCall (fun _ => dSlow) (fun _ => dSlow) (fun _ => dSlow) (fun _ _ => dSlow) (fun _ _ _ => dSlow) (fun _ _ => dSlow)
    o.op P orc ih a h o

theorem eqGuard_int (op : BinOp) (t : TypeId) (x y : Operand) (j k : IntKind) (m n : Int) : eqGuard op t x y (.int j m) (.int k n) = pure () := by cases op <;> rfl
theorem lplain_int {P : Program} {ρ : Operand → Option Value} {o : Oper} {op : BinOp} {t yt : TypeId} {x y : Operand} {j k : IntKind} {m n : Int} {v : Value} (ho : o.op = .binOp op t x y yt) (hx : ρ x = some (.int j m)) (hy : ρ y = some (.int k n))
    (hb : binOp op t (.int j m) (.int k n) = pure v) (hv : plain v = true) : lplain P ρ o = some v := by
  have h1 : isSelect o.op = false := by rw [ho]; rfl
  have h2 : o.op.operands.all (fun x => match ρ x with | some v => plain v | none => false) = true := by
    rw [ho]
    simp [Op.operands, hx, hy, plain]
  have h3 : execOp (fun x => (ρ x).getD undef) o = pure (.value v) := by
    simp only [execOp, ho, hx, hy, Option.getD_some, eqGuard_int, pure_bind, hb]
  have h4 : runP P (execOp (fun x => (ρ x).getD undef) o) = some (.value v) := by rw [h3]; rfl
  refine (if_neg (by rw [h1]; exact Bool.false_ne_true)).trans ((if_pos h2).trans ?_)
  rw [h4]
  exact if_pos hv
theorem intOpF_eq {op : BinOp} {k : IntKind} {m n : Int} {v : Value} (t : TypeId) (h : intOpF op k m n = some v) : binOp op t (.int k m) (.int k n) = pure v ∧ plain v = true := by
  cases op <;> simp only [intOpF] at h <;> first
    | cases h; done
    | exact bitOpF_eq t h (by simp)
    | (simp only [Option.some.injEq] at h; subst h; refine ⟨?_, rfl⟩; simp only [binOp, ne_eq, not_true_eq_false, if_false, Op.intArith, Op.intCmp, wrapF_eq, intAddF_eq, intEqF_eq, intLtF_eq] <;> first | rfl | (congr 2; done) | (congr 2; first | rfl | (simp [bne]; done) | (by_cases hh : m < n <;> by_cases hg : n < m <;> simp [hh, hg] <;> omega)))

theorem lexecF_eq (P : Program) (orc : Orc) (ih : Task → Option Res) (a : LAct) (h : LH) (o : Oper) : lexecF P orc ih a h o = lexec P orc ih a h o := by
  obtain ⟨dst, op, type, pos, after, guard⟩ := o
  cases op <;> try rfl
  case move x =>
    show ob (levF x a) _ = _
    rw [levF_eq]
    simp only [lexec, isDefer, lop, Bool.false_eq_true, if_false]
    cases lev a x <;> rfl
  case assign x =>
    show ob (levF x a) _ = _
    rw [levF_eq]
    simp only [lexec, isDefer, lop, Bool.false_eq_true, if_false]
    cases lev a x <;> rfl
  case load t x =>
    show ob (levF x a) (fun v => ob (lloadF P h t v) fun u => some (u, h)) = _
    rw [levF_eq]
    simp only [lexec, isDefer, lop, Bool.false_eq_true, if_false]
    cases lev a x with
    | none => rfl
    | some v => simp only [ob_some, lloadF_eq]; cases lload P h t v <;> rfl
  case nilCheck x =>
    show ob (levF x a) (fun v => ob (asPtrF v) fun p => some (Value.pointer (some p), h)) = _
    rw [levF_eq]
    simp only [lexec, isDefer, lop, Bool.false_eq_true, if_false]
    cases lev a x with
    | none => rfl
    | some v =>
      cases v with
      | pointer p => cases p <;> rfl
      | _ => rfl
  case fieldAddr t x f =>
    show ob (levF x a) (fun v => ob (lfieldAddrF P t v f) fun u => some (u, h)) = _
    rw [levF_eq]
    simp only [lexec, isDefer, lop, Bool.false_eq_true, if_false]
    cases lev a x with
    | none => rfl
    | some v => simp only [ob_some, lfieldAddrF_eq]; cases lfieldAddr P t v f <;> rfl
  case indexAddr t x y =>
    show ob (levF x a) (fun v => ob (levF y a) fun i => ob (lindexAddrF P t v i) fun u => some (u, h)) = _
    rw [levF_eq]
    simp only [lexec, isDefer, lop, Bool.false_eq_true, if_false]
    cases lev a x with
    | none => rfl
    | some v =>
      simp only [ob_some]
      rw [levF_eq]
      cases lev a y with
      | none => rfl
      | some i => simp only [ob_some, lindexAddrF_eq]; cases lindexAddr P t v i <;> rfl
  case extract x i =>
    show ob (levF x a) (fun v => ob (asTupF v) fun vs => ob (nthF vs.toList i) fun u => some (u, h)) = _
    rw [levF_eq]
    simp only [lexec, isDefer, lop, Bool.false_eq_true, if_false]
    cases lev a x with
    | none => rfl
    | some v =>
      cases v with
      | tuple vs =>
        show ob (nthF vs.toList i) _ = _
        rw [nthF_eq, Array.getElem?_toList]
        simp only [lextract]
        cases vs[i]? <;> rfl
      | _ => rfl
  case binOp op t x y yt =>
    generalize hs : lexec P orc ih a h ⟨dst, .binOp op t x y yt, type, pos, after, guard⟩ = slow
    show ob (levF x a) (fun u => ob (levF y a) fun v => dInt2 op u v h (lexec P orc ih a h ⟨dst, .binOp op t x y yt, type, pos, after, guard⟩)) = _
    rw [hs, levF_eq]
    have hx0 : lev a x = none → slow = none := by
      intro h0; rw [← hs]; simp only [lexec, isDefer, lop, Bool.false_eq_true, if_false, h0]
    cases hx : lev a x with
    | none => rw [hx0 hx]; rfl
    | some u =>
      simp only [ob_some]
      rw [levF_eq]
      cases hy : lev a y with
      | none => rw [← hs]; simp only [lexec, isDefer, lop, Bool.false_eq_true, if_false, hx, hy]; rfl
      | some v =>
        simp only [ob_some]
        cases u <;> try rfl
        cases v <;> try rfl
        rename_i j m k n
        have done : ∀ {z : Value}, binOp op t (.int j m) (.int k n) = pure z → plain z = true → some (z, h) = slow := by
          intro z h1 h2
          have h3 := lplain_int (P := P) (ρ := lev a) (o := ⟨dst, .binOp op t x y yt, type, pos, after, guard⟩) rfl hx hy h1 h2
          have hnil : lbinOp P op t (.int j m) (.int k n) = none := by
            unfold lbinOp
            have hd : ∀ d, lnilEq d (.int j m) (.int k n) = none := fun d => by cases d <;> rfl
            simp only [hd]
            cases P.underlying t with
            | none => rfl
            | some d => cases op <;> rfl
          rw [← hs]
          simp only [lexec, isDefer, lop, Bool.false_eq_true, if_false, hx, hy, hnil, h3]
        show Option.rec (motive := fun _ => Option (Value × LH)) (bb (kindF j k) (Option.rec (motive := fun _ => Option (Value × LH)) slow (fun v => some (v, h)) (intOpF op j m n)) slow) (fun v => some (v, h)) (shiftF op j m n) = slow
        cases hsh : shiftF op j m n with
        | some z => obtain ⟨h1, h2⟩ := shiftF_eq t hsh; exact done h1 h2
        | none =>
          simp only []
          cases hk : kindF j k with
          | false => rfl
          | true =>
            obtain rfl := kindF_eq hk
            simp only [bb_true]
            cases hi : intOpF op j m n with
            | none => rfl
            | some z =>
              obtain ⟨h1, h2⟩ := intOpF_eq t hi
              exact done h1 h2
  case call c =>
    obtain ⟨callee, args, argTypes⟩ := c
    cases callee with
    | invoke r m => rfl
    | builtin b => rfl
    | value fx =>
      show ob (levF fx a) (fun fv => ob (evalsF a args.toList) fun vs => ob (asFunF fv) (dCallF P orc ih h fv vs)) = _
      rw [levF_eq]
      simp only [lexec, isDefer, Bool.false_eq_true, if_false]
      cases lev a fx with
      | none => rfl
      | some fv =>
        simp only [ob_some, evalsF_eq]
        cases evals (lev a) args.toList with
        | none => rfl
        | some vs =>
          simp only [ob_some]
          cases fv <;> try rfl
          rename_i fn fs cs
          cases fn <;> try rfl
          rename_i f
          show lfunF P orc ih h f (appF fs.toList (appF vs cs.toList)) = lfun P orc ih h f (fs.toList ++ vs ++ cs.toList)
          rw [appF_eq, appF_eq, ← List.append_assoc]
          unfold lfunF
          cases ho : orc f with
          | some g => rfl
          | none =>
            simp only []
            rw [bb_ite]
            split
            · rename_i hp
              unfold lfun
              simp only [ho, hp, if_true]
              cases ih (.call f (fs.toList ++ vs ++ cs.toList) h) with
              | none => rfl
              | some r => cases r <;> rfl
            · rfl
end
end Go.Proofs.YtedfhallhpkkhaaGreatDoor.X
/- The local run once more, by the recursors themselves: regions, code, calls, the whole run. Any program. -/
namespace Go.Proofs.YtedfhallhpkkhaaGreatDoor.X
open Go
noncomputable section

abbrev Rec := Task → Option Res
abbrev Any := Rec → Array Oper → LAct → LH → Option (LAct × LH)

def asBoolF (v : Value) : Option Bool :=
  Value.rec (motive_1 := fun _ => Option Bool) (motive_2 := fun _ => PUnit) (motive_3 := fun _ => PUnit)
    (fun b => some b) (fun _ _ => none) (fun _ _ => none) (fun _ _ _ => none) (fun _ => none) (fun _ => none) (fun _ _ _ => none) (fun _ => none) (fun _ => none) (fun _ _ _ _ _ => none) none (fun _ _ _ => none) none (fun _ _ => none) (fun _ _ => none)
    (fun _ _ => ⟨⟩) ⟨⟩ (fun _ _ _ _ => ⟨⟩) v
def bxnor (x y : Bool) : Bool := bb x y (not y)
theorem bxnor_eq (x y : Bool) : bxnor x y = (x == y) := by cases x <;> cases y <;> rfl
def yieldedF (all : List Oper) (a : LAct) (j : Nat) : Option Bool := ob (nthF all j) fun o => ob o.dst fun t => ob (T.get a.tmps t) asBoolF
theorem yieldedF_eq (ops : Array Oper) (a : LAct) (j : Nat) : yieldedF ops.toList a j = lyielded ops a j := by
  unfold yieldedF lyielded
  rw [nthF_eq, Array.getElem?_toList]
  cases ops[j]? with
  | none => rfl
  | some o =>
    simp only [ob_some, Option.bind_some]
    cases o.dst with
    | none => rfl
    | some t =>
      simp only [ob_some]
      cases a.tmps.get t with
      | none => rfl
      | some v => cases v <;> rfl
def guardF (all : List Oper) (a : LAct) (g : Nat × Bool) : Bool := Option.rec (motive := fun _ => Bool) false (fun b => bxnor b g.2) (yieldedF all a g.1)
def wantedF (all : List Oper) (a : LAct) (g : Option (Nat × Bool)) : Bool := Option.rec (motive := fun _ => Bool) true (guardF all a) g
theorem wantedF_eq (ops : Array Oper) (a : LAct) (o : Oper) : wantedF ops.toList a o.guard = lwanted ops a o := by
  unfold lwanted
  cases o.guard with
  | none => rfl
  | some g =>
    obtain ⟨j, want⟩ := g
    show guardF ops.toList a (j, want) = (lyielded ops a j == some want)
    unfold guardF
    rw [yieldedF_eq]
    cases lyielded ops a j with
    | none => rfl
    | some b =>
      show bxnor b want = _
      cases b <;> cases want <;> rfl
def putF (a : LAct) (dst : Option Tmp) (v : Value) : Option LAct :=
  Option.rec (motive := fun _ => Option LAct) (some a) (fun d => LAct.rec (motive := fun _ => Option LAct) (fun t n m => bb (Nat.ble (Nat.succ d) n) (some ⟨t.set d (some v), n, m⟩) none) a) dst
theorem putF_eq (a : LAct) (dst : Option Tmp) (v : Value) : putF a dst v = a.put dst v := by
  obtain ⟨t, n, m⟩ := a
  cases dst with
  | none => rfl
  | some d =>
    show bb (Nat.ble (d + 1) n) _ _ = _
    rw [bb_ite, nat_ble]
    simp only [LAct.put]
    by_cases h : d < n
    · simp [h, Nat.succ_le_of_lt h]
    · have h2 : ¬ (d + 1 ≤ n) := fun q => h q
      rw [if_neg (by simpa using h2), if_neg h]
def opsF (P : Program) (orc : Orc) (ih : Rec) (all l : List Oper) : LAct → LH → Option (LAct × LH) :=
  List.rec (motive := fun _ => LAct → LH → Option (LAct × LH)) (fun a h => some (a, h))
    (fun o _ rest a h => ob (bb (wantedF all a o.guard) (lexecF P orc ih a h o) (some (undef, h))) (fun p => Prod.rec (motive := fun _ => Option (LAct × LH)) (fun v h' => ob (putF a o.dst v) fun a' => rest a' h') p)) l
theorem opsF_eq (P : Program) (orc : Orc) (ih : Rec) (ops : Array Oper) : ∀ (l : List Oper) (js : List Nat), js.map (ops[·]?) = l.map some → ∀ a h, opsF P orc ih ops.toList l a h = lops P orc ih ops js a h
  | [], [], _, a, h => rfl
  | [], _ :: _, hl, _, _ => by cases hl
  | _ :: _, [], hl, _, _ => by cases hl
  | o :: l, j :: js, hl, a, h => by
    simp only [List.map_cons, List.cons.injEq] at hl
    show ob (bb (wantedF ops.toList a o.guard) (lexecF P orc ih a h o) (some (undef, h))) _ = _
    simp only [lops, hl.1]
    rw [wantedF_eq, lexecF_eq, bb_ite]
    cases (if lwanted ops a o = true then lexec P orc ih a h o else some (undef, h)) with
    | none => rfl
    | some p =>
      obtain ⟨v, h'⟩ := p
      show ob (putF a o.dst v) _ = _
      rw [putF_eq]
      simp only
      cases a.put o.dst v with
      | none => rfl
      | some a' => exact opsF_eq P orc ih ops l js hl.2 a' h'
theorem range_map (ops : Array Oper) : (List.range ops.size).map (ops[·]?) = ops.toList.map some := by
  apply List.ext_getElem?
  intro i
  simp only [List.getElem?_map, List.getElem?_range, Array.getElem?_toList]
  by_cases h : i < ops.size
  · simp [List.getElem?_range h, h]
  · simp [h]

abbrev C := Program → Orc → Any → Rec → Option Nat → LAct → LH → Option Res
def codeR (r : Option Res) (k : LExit → LAct → LH → Option Res) : Option Res := ob r fun x => Res.rec (motive := fun _ => Option Res) k (fun v h => some (.val v h)) x
def exitR (e : LExit) (x : Option Res) (y : Nat → Option Res) (z : Option Res) : Option Res := LExit.rec (motive := fun _ => Option Res) x y z e
def endR (a : LAct) (h : LH) (e : LExit) : Option Res := some (.code e a h)
def cSkip : C := fun _ _ _ _ _ a h => endR a h .normal
def cRet : C := fun _ _ _ _ _ a h => endR a h .ret
def cExit (i : Nat) : C := fun _ _ _ _ _ a h => endR a h (.exit i)
def cNone : C := fun _ _ _ _ _ _ _ => none
def cRegion (ops : Array Oper) (draw : Bool) : C := fun P orc any ih _ a h => ob (bb draw (any ih ops a h) (opsF P orc ih ops.toList ops.toList a h)) fun p => Prod.rec (motive := fun _ => Option Res) (fun a h => endR a h .normal) p
def cSeq (x y : Code) : C := fun _ _ _ ih ro a h => codeR (ih (.code ro x a h)) fun e a' h' => exitR e (ih (.code ro y a' h')) (fun i => endR a' h' (.exit i)) (endR a' h' .ret)
def cCond (x : Operand) (c d : Code) : C := fun _ _ _ ih ro a h => ob (levF x a) fun v => ob (asBoolF v) fun b => ih (.code ro (bb b c d) a h)
def cBlock (i : Nat) (c : Code) : C := fun _ _ _ ih ro a h => codeR (ih (.code ro c a h)) fun e a' h' => exitR e (endR a' h' .normal) (fun j => bb (Nat.beq j i) (endR a' h' .normal) (endR a' h' (.exit j))) (endR a' h' .ret)
def cLoop (c : Code) : C := fun _ _ _ ih ro a h => codeR (ih (.code ro c a h)) fun e a' h' => exitR e (ih (.code ro (.loop c) a' h')) (fun j => endR a' h' (.exit j)) (endR a' h' .ret)
def cSlow (c : Code) : C := fun P orc any ih ro a h => lcode P orc ih any ro c a h
def lcodeF (c : Code) : C :=
  Code.rec (motive := fun _ => C) cSkip (fun _ ops draw => cRegion ops draw) (fun x y _ _ => cSeq x y) (fun x c d _ _ => cCond x c d) (fun i c _ => cBlock i c) (fun c _ => cLoop c) (fun f p x y _ _ => cSlow (.rangeFunc f p x y)) cExit (fun c _ => cSlow (.scope c)) (fun _ => cSkip) (fun l => cSlow (.goto l)) cRet (fun w => cSlow (.refuse w)) c
theorem lcodeF_eq (P : Program) (orc : Orc) (any : Any) (ih : Rec) (ro : Option Nat) (c : Code) (a : LAct) (h : LH) : lcodeF c P orc any ih ro a h = lcode P orc ih any ro c a h := by
  cases c <;> try rfl
  case region id ops draw =>
    show ob (bb draw (any ih ops a h) (opsF P orc ih ops.toList ops.toList a h)) _ = _
    rw [opsF_eq P orc ih ops _ _ (range_map ops), bb_ite]
    simp only [lcode]
    cases (if draw = true then any ih ops a h else lops P orc ih ops (List.range ops.size) a h) <;> rfl
  case seq x y =>
    show codeR (ih (.code ro x a h)) _ = _
    simp only [lcode]
    cases ih (.code ro x a h) with
    | none => rfl
    | some r => cases r with
      | code e a' h' => cases e <;> rfl
      | val v h' => rfl
  case cond x c d =>
    show ob (levF x a) _ = _
    rw [levF_eq]
    simp only [lcode]
    cases lev a x with
    | none => rfl
    | some v => cases v with
      | bool b => cases b <;> rfl
      | _ => rfl
  case block i c =>
    show codeR (ih (.code ro c a h)) _ = _
    simp only [lcode]
    cases ih (.code ro c a h) with
    | none => rfl
    | some r => cases r with
      | code e a' h' =>
        cases e with
        | exit j =>
          show bb (Nat.beq j i) _ _ = _
          rw [nat_beq, bb_ite]
          by_cases hj : j = i
          · simp [hj, endR]
          · simp [hj, endR]
        | _ => rfl
      | val v h' => rfl
  case loop c =>
    show codeR (ih (.code ro c a h)) _ = _
    simp only [lcode]
    cases ih (.code ro c a h) with
    | none => rfl
    | some r => cases r with
      | code e a' h' => cases e <;> rfl
      | val v h' => rfl

def enterF (n : Nat) (args : List Value) : Nat → T Value → Option (T Value) :=
  List.rec (motive := fun _ => Nat → T Value → Option (T Value)) (fun _ t => some t) (fun v _ ih i t => bb (Nat.ble (Nat.succ i) n) (ih (Nat.succ i) (t.set i (some v))) none) args
theorem enterF_eq (n : Nat) : ∀ (args : List Value) (i : Nat) (t : T Value), enterF n args i t = lenter n i args t
  | [], _, _ => rfl
  | v :: l, i, t => by
    show bb (Nat.ble (i + 1) n) (enterF n l (i + 1) (t.set i (some v))) none = _
    rw [enterF_eq n l, bb_ite, nat_ble]
    simp only [lenter]
    by_cases h : i < n
    · simp [h, Nat.succ_le_of_lt h]
    · have h2 : ¬ (i + 1 ≤ n) := by omega
      rw [if_neg (by simpa using h2), if_neg h]
def resultsF (P : Program) (a : LAct) (h : LH) (l : List ResultVar) : Option (List Value) :=
  List.rec (motive := fun _ => Option (List Value)) (some []) (fun x _ ih => ResultVar.rec (motive := fun _ => Option (List Value)) (fun t => ob ih fun vs => some ((Option.rec (motive := fun _ => Value) undef (fun v => v) (T.get a.tmps t)) :: vs))
    (fun t ty => ob (lloadF P h ty (Option.rec (motive := fun _ => Value) undef (fun v => v) (T.get a.tmps t))) fun v => ob ih fun vs => some (v :: vs)) x) l
theorem getD_rec (o : Option Value) : (Option.rec (motive := fun _ => Value) undef (fun v => v) o : Value) = o.getD undef := by cases o <;> rfl
theorem resultsF_eq (P : Program) (a : LAct) (h : LH) : ∀ l, resultsF P a h l = lresults P a h l
  | [] => rfl
  | .tmp t :: l => by
    show ob (resultsF P a h l) _ = _
    rw [resultsF_eq P a h l]
    simp only [lresults, getD_rec]
    cases lresults P a h l <;> rfl
  | .cell t ty :: l => by
    show ob (lloadF P h ty _) (fun v => ob (resultsF P a h l) fun vs => some (v :: vs)) = _
    rw [resultsF_eq P a h l, lloadF_eq, getD_rec]
    simp only [lresults]
    cases lload P h ty ((a.tmps.get t).getD undef) with
    | none => rfl
    | some v => cases lresults P a h l <;> rfl
def marksF (h : LH) (l : List Nat) : Option LH := List.rec (motive := fun _ => Option LH) (some h) (fun _ _ _ => lmarks h l) l
theorem marksF_eq (h : LH) (l : List Nat) : marksF h l = lmarks h l := by cases l <;> rfl
def valsF (vs : List Value) (h : LH) : Option Res := List.rec (motive := fun _ => Option Res) (some (.val (.tuple vs.toArray) h)) (fun v l _ => List.rec (motive := fun _ => Option Res) (some (.val v h)) (fun _ _ _ => some (.val (.tuple vs.toArray) h)) l) vs
def lcallFF (P : Program) (ih : Rec) (f : FuncId) (args : List Value) (h : LH) : Option Res :=
  ob P.funcs[f]? fun fn => ob fn.body fun c => ob (enterF fn.ntmps args 0 .nil) fun t => ob (ih (.code none c ⟨t, fn.ntmps, []⟩ h)) fun r => Res.rec (motive := fun _ => Option Res)
    (fun e a' h' => LExit.rec (motive := fun _ => (Unit → Option Res) → Option Res) (fun k => k ()) (fun _ _ => none) (fun k => k ()) e (fun _ => ob (marksF h' a'.marks) fun h2 => ob (resultsF P a' h2 fn.results.toList) fun vs => valsF vs h2)) (fun _ _ => none) r
theorem lcallFF_eq (P : Program) (ih : Rec) (f : FuncId) (args : List Value) (h : LH) : lcallFF P ih f args h = lcallF P ih f args h := by
  unfold lcallFF lcallF
  cases P.funcs[f]? with
  | none => rfl
  | some fn =>
    simp only [ob_some]
    cases fn.body with
    | none => rfl
    | some c =>
      simp only [ob_some]
      rw [enterF_eq]
      cases lenter fn.ntmps 0 args .nil with
      | none => rfl
      | some t =>
        simp only [ob_some]
        cases ih (.code none c ⟨t, fn.ntmps, []⟩ h) with
        | none => rfl
        | some r => cases r with
          | val v h' => rfl
          | code e a' h' =>
            have hk : (ob (marksF h' a'.marks) fun h2 => ob (resultsF P a' h2 fn.results.toList) fun vs => valsF vs h2) = (match lmarks h' a'.marks with
              | some h'' =>
                match lresults P a' h'' fn.results.toList with
                | some [v] => some (.val v h'')
                | some vs => some (.val (.tuple vs.toArray) h'')
                | none => none
              | none => none) := by
              rw [marksF_eq]
              cases lmarks h' a'.marks with
              | none => rfl
              | some h2 =>
                simp only [ob_some]
                rw [resultsF_eq]
                cases lresults P a' h2 fn.results.toList with
                | none => rfl
                | some vs => cases vs with
                  | nil => rfl
                  | cons v l => cases l <;> rfl
            cases e with
            | exit _ => rfl
            | normal => exact hk
            | ret => exact hk
def lstepF (P : Program) (orc : Orc) (any : Any) (ih : Rec) (t : Task) : Option Res :=
  Task.rec (motive := fun _ => Option Res) (fun ro c a h => lcodeF c P orc any ih ro a h) (fun f args h => lcallFF P ih f args h) (fun l args h => lround ih l args h) t
theorem lstepF_eq (P : Program) (orc : Orc) (any : Any) (ih : Rec) (t : Task) : lstepF P orc any ih t = lstep P orc ih any t := by
  cases t with
  | code ro c a h => exact lcodeF_eq P orc any ih ro c a h
  | call f args h => exact lcallFF_eq P ih f args h
  | round l args h => rfl
def lrunF (P : Program) (orc : Orc) (any : Any) (n : Nat) : Rec := Nat.rec (motive := fun _ => Rec) (fun _ => none) (fun _ ih t => lstepF P orc any ih t) n
theorem lrunF_eq (P : Program) (orc : Orc) (any : Any) : ∀ n, lrunF P orc any n = lrun P orc any n
  | 0 => rfl
  | n + 1 => by
    funext t
    show lstepF P orc any (lrunF P orc any n) t = lstep P orc (lrun P orc any n) any t
    rw [lrunF_eq P orc any n, lstepF_eq]
end
end Go.Proofs.YtedfhallhpkkhaaGreatDoor.X
/- Regions that draw their order, run locally once: what is looked at, what must come before, and the run itself. Any program. -/
namespace Go.Proofs.YtedfhallhpkkhaaGreatDoor.X
open Go
noncomputable section

/-! ### The order (from the region's text alone) -/
def looksOf (ops : Array Oper) (i : Nat) : List Tmp := match ops[i]? with | some o => o.looksAt ops | none => []
def dstOf (ops : Array Oper) (i : Nat) : Option Tmp := (ops[i]?).bind (·.dst)
/-- Operations that may change the heap, or enter code. -/
def isEff : Op → Bool
  | .move _ | .assign _ | .pick .. | .alloc _ | .build .. | .load .. | .nilCheck _ | .binOp .. | .unOp .. | .convert .. | .makeInterface .. | .makeFunc .. | .makeMap .. | .makeSlice .. | .slice .. | .fieldAddr .. | .field .. | .indexAddr .. | .index .. | .lookup .. | .typeAssert .. | .extract .. => false
  | .call c => match c.callee with | .builtin .len | .builtin .max | .builtin .min => false | _ => true
  | _ => true
def isRead : Op → Bool
  | .load .. | .lookup .. | .convert .. | .slice .. => true
  | .call c => match c.callee with | .builtin .len => true | _ => false
  | _ => false
def isConv : Op → Bool
  | .convert .. => true
  | _ => false
def isZero : Op → Bool
  | .alloc _ | .makeMap .. | .makeSlice .. => true
  | _ => false
def maskOf (M : List Nat) (after : List Edge) : Nat := List.rec (motive := fun _ => Nat) 0 (fun e _ s => bb (Region.binds .any e) (Nat.lor (Nat.lor s (Nat.pow 2 e.on)) (M.getD e.on 0)) s) after
def masks (ops : Array Oper) : List Nat := (Region.before ops).toList
abbrev Segs := List (List Nat × Nat)
def cut (M : List Nat) : List Nat → List Nat → Segs × List Nat
  | rem, [] => ([], rem)
  | rem, e :: es =>
    let ns := rem.filter fun i => Nat.testBit (M.getD e 0) i
    let r := cut M (rem.filter fun i => !Nat.testBit (M.getD e 0) i) es
    ((ns, e) :: r.1, r.2)
def effAt (ops : Array Oper) (i : Nat) : Bool := match ops[i]? with | some o => isEff o.op | none => true
def planOf (ops : Array Oper) : Segs × List Nat := cut (masks ops) ((List.range ops.size).filter fun i => !effAt ops i) ((List.range ops.size).filter fun i => effAt ops i)
def flat (s : Segs) (last : List Nat) : List Nat := s.flatMap (fun x => x.1 ++ [x.2]) ++ last
/-- Who writes a slot that is looked at is waited for, or waits. -/
def ord (ops : Array Oper) (M : List Nat) : List Nat → List Nat → Bool
  | _, [] => true
  | pre, i :: l => ((looksOf ops i).all fun t => (pre.all fun j => dstOf ops j != some t || Nat.testBit (M.getD i 0) j) && (l.all fun j => dstOf ops j != some t || Nat.testBit (M.getD j 0) i)) && ord ops M (i :: pre) l
def dist (ops : Array Oper) : List Nat → Bool
  | [] => true
  | i :: l => (l.all fun j => j != i && (dstOf ops i == none || dstOf ops j != dstOf ops i)) && dist ops l
def segOk (M : List Nat) : Segs → Bool
  | [] => true
  | s :: rest => (s.1.all fun i => Nat.testBit (M.getD s.2 0) i) && (rest.all fun x => Nat.testBit (M.getD x.2 0) s.2) && segOk M rest
def maskOk (M : List Nat) (ops : Array Oper) (i : Nat) : Bool :=
  match ops[i]? with
  | some o => M.getD i 0 == maskOf M o.after.toList && o.after.toList.all fun e => !Region.binds .any e || decide (e.on < i)
  | none => false
def planOk (ops : Array Oper) (s : Segs) (last : List Nat) : Bool :=
  ((List.range ops.size).all fun i => (flat s last).contains i && maskOk (masks ops) ops i) && ord ops (masks ops) [] (flat s last) && dist ops (flat s last) && segOk (masks ops) s &&
  decide ((flat s last).length ≤ ops.size) && (flat s last).all fun i => decide (i < ops.size)

/-! ### Numbers in a value -/
mutual
def idsOk (f : Nat → Bool) : Value → Bool
  | .pointer (some a) => f a.block
  | .slice (some a) _ _ => f a.block
  | .map (some r) => f r
  | .func fn fs cs => (match fn with | .yield l => f l | _ => true) && (idsOkA f fs && idsOkA f cs)
  | .iface _ v => idsOk f v
  | .agg cs => idsOkA f cs
  | .tuple vs => idsOkA f vs
  | _ => true
def idsOkA (f : Nat → Bool) : Array Value → Bool
  | ⟨l⟩ => idsOkL f l
def idsOkL (f : Nat → Bool) : List Value → Bool
  | [] => true
  | v :: l => idsOk f v && idsOkL f l
end
def addrEq (a b : Addr) : Bool := Nat.beq a.block b.block && Nat.beq a.off b.off && a.spot.isNone && b.spot.isNone
mutual
def veq : Value → Value → Bool
  | .bool a, .bool b => a == b
  | .int j a, .int k b => kindF j k && intEqF a b
  | .string a, .string b => a.data.toList == b.data.toList
  | .pointer (some a), .pointer (some b) => addrEq a b
  | .pointer none, .pointer none => true
  | .slice (some a) l k, .slice (some b) m n => addrEq a b && (Nat.beq l m && Nat.beq k n)
  | .slice none l k, .slice none m n => Nat.beq l m && Nat.beq k n
  | .map (some a), .map (some b) => Nat.beq a b
  | .map none, .map none => true
  | .nilFunc, .nilFunc => true
  | .nilIface, .nilIface => true
  | .agg ⟨a⟩, .agg ⟨b⟩ => veqL a b
  | .tuple ⟨a⟩, .tuple ⟨b⟩ => veqL a b
  | _, _ => false
def veqL : List Value → List Value → Bool
  | [], [] => true
  | a :: l, b :: m => veq a b && veqL l m
  | _, _ => false
end

/-! ### The run -/
def resT (t : T Value) (ts : List Tmp) : T Value := List.rec (motive := fun _ => T Value) .nil (fun x _ ih => Option.rec (motive := fun _ => T Value) ih (fun v => T.set ih x (some v)) (T.get t x)) ts
def restr (la : LAct) (ts : List Tmp) : LAct := ⟨resT la.tmps ts, la.n, []⟩
def slotsOk (f : Value → Bool) (la : LAct) (ts : List Tmp) : Bool := ts.all fun t => match la.tmps.get t with | some v => f v | none => true
/-- A number that is reserved and not yet given is not there. -/
def avail (base N : Nat) (h : LH) (x : Nat) : Bool := bb (Nat.ble base x) (bb (Nat.ble (Nat.succ x) (base + N)) (Option.rec (motive := fun _ => Bool) false (fun _ => true) (LH.get h x)) true) true

inductive NK where
  | skip
  | pure
  | read
  | zero (x : LO)
structure NRec where
  i : Nat
  la : LAct
  v : Value
  k : NK
structure DSeg where
  ns : List NRec
  pre : LH
  e : Nat
  la : LAct
  v : Value
  post : LH
def BIG : Nat := 1000000000000000000
def isNilT (t : T LO) : Bool := T.rec (motive := fun _ => Bool) true (fun _ _ _ _ _ => false) t

section
variable (P : Program) (orc : Orc) (ih : Task → Option Res) (ops : Array Oper) (base : Nat)
def tryPure (lr : LAct) (o : Oper) : Option Value :=
  match lop P (lev lr) ⟨.nil, BIG⟩ o with
  | some (v, h1) => if isNilT h1.t = true ∧ h1.next = BIG then some v else none
  | none => none
def tryZero (lr : LAct) (i : Nat) (o : Oper) : Option (Value × LO) :=
  if slotsOk plain lr (looksOf ops i) = true then
    match lop P (lev lr) ⟨.nil, base + i⟩ o with
    | some (v, h1) => if h1.next = base + i + 1 then match h1.get (base + i) with | some x => some (v, x) | none => none else none
    | none => none
  else none
def nrec (H : LH) (lr : LAct) (i : Nat) (o : Oper) : Option NRec :=
  if isEff o.op = true then none else
  if lwanted ops lr o = true then
    if isRead o.op = true then
      match (if isConv o.op = true then tryPure P lr o else none) with
      | some v => some ⟨i, lr, v, .pure⟩
      | none => match (if isConv o.op = true then tryZero P ops base lr i o else none) with
        | some p => some ⟨i, lr, p.1, .zero p.2⟩
        | none => (lop P (lev lr) H o).map fun p => ⟨i, lr, p.1, .read⟩
    else if isZero o.op = true then (tryZero P ops base lr i o).map fun p => ⟨i, lr, p.1, .zero p.2⟩
    else (tryPure P lr o).map fun v => ⟨i, lr, v, .pure⟩
  else some ⟨i, lr, undef, .skip⟩
def fwdN (H : LH) : List Nat → LAct → Option (List NRec × LAct)
  | [], la => some ([], la)
  | i :: l, la =>
    match ops[i]? with
    | some o =>
      match nrec P ops base H (restr la (looksOf ops i)) i o with
      | some r =>
        match la.put o.dst r.v with
        | some la1 =>
          match fwdN H l la1 with
          | some (rs, la2) => some (r :: rs, la2)
          | none => none
        | none => none
      | none => none
    | none => none
def absorb (H : LH) : List NRec → LH
  | [] => H
  | r :: l => match r.k with
    | .zero x => absorb (H.put (base + r.i) x) l
    | _ => absorb H l
def fwd : Segs → List Nat → LAct → LH → Option (List DSeg × List NRec × LAct × LH)
  | [], last, la, H =>
    match fwdN P ops base H last la with
    | some (rs, la1) => some ([], rs, la1, absorb base H rs)
    | none => none
  | s :: rest, last, la, H =>
    match fwdN P ops base H s.1 la with
    | some (rs, la1) =>
      match ops[s.2]? with
      | some o =>
        let pre := absorb base H rs
        let lr := restr la1 (looksOf ops s.2)
        if slotsOk (idsOk (avail base ops.size pre)) lr (looksOf ops s.2) = true ∧ isSelect o.op = false then
          match (if lwanted ops lr o = true then lexec P orc ih lr pre o else some (undef, pre)) with
          | some (v, post) =>
            match la1.put o.dst v with
            | some la2 =>
              match fwd rest last la2 post with
              | some (ds, lr', laF, hF) => some (⟨rs, pre, s.2, lr, v, post⟩ :: ds, lr', laF, hF)
              | none => none
            | none => none
          | none => none
        else none
      | none => none
    | none => none
def readAt (H : LH) (es : List Nat) (r : NRec) : Bool :=
  match r.k with
  | .read => es.any (fun e => Nat.testBit ((masks ops).getD r.i 0) e) ||
    (slotsOk (idsOk (avail base ops.size H)) r.la (looksOf ops r.i) &&
      match ops[r.i]? with
      | some o => match lop P (lev r.la) H o with
        | some (v, h) => Nat.beq h.next H.next && veq v r.v
        | none => false
      | none => false)
  | _ => true
def readsAt (last : List NRec) : List DSeg → LH → Bool
  | [], H => Nat.ble H.next BIG && last.all (readAt P ops base H [])
  | s :: rest, H => Nat.ble H.next BIG && (s.ns ++ rest.flatMap (·.ns) ++ last).all (readAt P ops base H (s.e :: rest.map (·.e))) && readsAt last rest s.post
end
/-- A region that draws. -/
def anyRun (P : Program) (orc : Orc) : (Task → Option Res) → Array Oper → LAct → LH → Option (LAct × LH) := fun ih ops la h =>
  if P.follows .mixedOrders = true then
  if planOk ops (planOf ops).1 (planOf ops).2 = true then
    match fwd P orc ih ops h.next (planOf ops).1 (planOf ops).2 la ⟨h.t, h.next + ops.size⟩ with
    | some (ds, rs, laF, hF) => if readsAt P ops h.next rs ds ⟨h.t, h.next + ops.size⟩ = true then some (⟨laF.tmps, laF.n, la.marks⟩, hF) else none
    | none => none
  else none
  else none
end
end Go.Proofs.YtedfhallhpkkhaaGreatDoor.X
