/- The local run once more, by the recursors themselves: all operations, regions, code. Any program. -/
import Derived.Test.YtedfhallhpkkhaaGreatDoorXq
set_option linter.unusedVariables false
set_option linter.unusedSimpArgs false
namespace Go.Proofs.YtedfhallhpkkhaaGreatDoor.X
open Go
noncomputable section

abbrev D := Program → Orc → (Task → Option Res) → LAct → LH → Oper → Option (Value × LH)
/-- As it was. -/
def dSlow : D := fun P orc ih a h o => lexec P orc ih a h o
def dMove (x : Operand) : D := fun _ _ _ a h _ => ob (levF x a) fun v => some (v, h)
def dLoad (t : TypeId) (x : Operand) : D := fun P _ _ a h _ => ob (levF x a) fun v => ob (lloadF P h t v) fun u => some (u, h)
def dField (t : TypeId) (x : Operand) (f : Nat) : D := fun P _ _ a h _ => ob (levF x a) fun v => ob (lfieldAddrF P t v f) fun u => some (u, h)
def dIdx (t : TypeId) (x y : Operand) : D := fun P _ _ a h _ => ob (levF x a) fun v => ob (levF y a) fun i => ob (lindexAddrF P t v i) fun u => some (u, h)
def dNil (x : Operand) : D := fun _ _ _ a h _ => ob (levF x a) fun v => ob (asPtrF v) fun p => some (.pointer (some p), h)
def dExtract (x : Operand) (i : Nat) : D := fun _ _ _ a h _ => ob (levF x a) fun v => ob (asTupF v) fun vs => ob (nthF vs.toList i) fun u => some (u, h)
def intOpF (op : BinOp) (k : IntKind) (x y : Int) : Option Value :=
  BinOp.rec (motive := fun _ => Option Value) (some (.int k (wrapF k (intAddF x y)))) (some (.int k (wrapF k (x - y)))) (some (.int k (wrapF k (x * y)))) none none (bitOpF Nat.land k x y) (bitOpF Nat.lor k x y) (bitOpF Nat.xor k x y) none none none
    (some (.bool (intEqF x y))) (some (.bool (not (intEqF x y)))) (some (.bool (intLtF x y))) (some (.bool (not (intLtF y x)))) (some (.bool (intLtF y x))) (some (.bool (not (intLtF x y)))) op
def dInt3 (op : BinOp) (p q : IntKind × Int) (h : LH) (slow : Option (Value × LH)) : Option (Value × LH) :=
  Option.rec (motive := fun _ => Option (Value × LH)) (bb (kindF p.1 q.1) (Option.rec (motive := fun _ => Option (Value × LH)) slow (fun v => some (v, h)) (intOpF op p.1 p.2 q.2)) slow) (fun v => some (v, h)) (shiftF op p.1 p.2 q.2)
def dInt2 (op : BinOp) (u v : Value) (h : LH) (slow : Option (Value × LH)) : Option (Value × LH) :=
  Option.rec (motive := fun _ => Option (Value × LH)) slow (fun p => Option.rec (motive := fun _ => Option (Value × LH)) slow (fun q => dInt3 op p q h slow) (asIntF v)) (asIntF u)
def dBin (op : BinOp) (_ : TypeId) (x y : Operand) (_ : TypeId) : D := fun P orc ih a h o => ob (levF x a) fun u => ob (levF y a) fun v => dInt2 op u v h (lexec P orc ih a h o)

def resVal (r : Res) : Option (Value × LH) := Res.rec (motive := fun _ => Option (Value × LH)) (fun _ _ _ => none) (fun v h => some (v, h)) r
def lfunF (P : Program) (orc : Orc) (ih : Task → Option Res) (h : LH) (f : FuncId) (args : List Value) : Option (Value × LH) :=
  Option.rec (motive := fun _ => Option (Value × LH)) (bb (isPlainFn P f) (ob (ih (.call f args h)) resVal) (lfun P orc ih h f args)) (fun _ => lfun P orc ih h f args) (orc f)
def dCallF (P : Program) (orc : Orc) (ih : Task → Option Res) (h : LH) (fv : Value) (vs : List Value) (p : Fn × Array Value × Array Value) : Option (Value × LH) :=
  Fn.rec (motive := fun _ => Option (Value × LH)) (fun f => lfunF P orc ih h f (appF p.2.1.toList (appF vs p.2.2.toList))) (fun _ => lcallV P orc ih h fv vs) (fun _ _ => lcallV P orc ih h fv vs) (fun _ _ _ _ => lcallV P orc ih h fv vs) (fun _ => lcallV P orc ih h fv vs) p.1
def dCall2 (c : Call) (fx : Operand) : D := fun P orc ih a h _ => ob (levF fx a) fun fv => ob (evalsF a c.args.toList) fun vs => ob (asFunF fv) (dCallF P orc ih h fv vs)
def dCall (c : Call) : D := fun P orc ih a h o => Callee.rec (motive := fun _ => Option (Value × LH)) (fun fx => dCall2 c fx P orc ih a h o) (fun _ _ => lexec P orc ih a h o) (fun _ => lexec P orc ih a h o) c.callee

def lexecF : D := fun P orc ih a h o =>
  Op.rec (motive := fun _ => D) dMove dMove (fun _ _ _ => dSlow) (fun _ => dSlow) (fun _ _ => dSlow) (fun _ _ => dSlow) (fun _ _ _ => dSlow) (fun _ _ _ _ => dSlow) dLoad (fun _ _ _ => dSlow) (fun _ => dSlow) (fun _ => dSlow) dNil dBin
    (fun _ _ _ => dSlow) (fun _ _ _ => dSlow) (fun _ _ => dSlow) (fun _ _ => dSlow) (fun _ _ _ => dSlow) (fun _ _ => dSlow) (fun _ _ => dSlow) (fun _ _ _ => dSlow) (fun _ _ _ _ _ => dSlow) dField (fun _ _ _ => dSlow) dIdx (fun _ _ _ => dSlow)
    (fun _ _ _ _ => dSlow) (fun _ _ _ _ => dSlow) (fun _ _ _ => dSlow) (fun _ _ _ _ => dSlow) (fun _ _ => dSlow) (fun _ _ => dSlow) (fun _ => dSlow) (fun _ _ _ _ => dSlow) dExtract dCall (fun _ => dSlow) (fun _ => dSlow) (fun _ => dSlow) (fun _ _ => dSlow) (fun _ _ _ => dSlow) (fun _ _ => dSlow)
    o.op P orc ih a h o

theorem eqGuard_int (op : BinOp) (t : TypeId) (x y : Operand) (j k : IntKind) (m n : Int) : eqGuard op t x y (.int j m) (.int k n) = pure () := by cases op <;> rfl
theorem lplain_int {P : Program} {ρ : Operand → Option Value} {o : Oper} {op : BinOp} {t yt : TypeId} {x y : Operand} {j k : IntKind} {m n : Int} {v : Value} (ho : o.op = .binOp op t x y yt) (hx : ρ x = some (.int j m)) (hy : ρ y = some (.int k n))
    (hb : binOp op t (.int j m) (.int k n) = pure v) (hv : plain v = true) : lplain P ρ o = some v := by
  have h1 : isSelect o.op = false := by rw [ho]; rfl
  have h2 : o.op.operands.all (fun x => match ρ x with | some v => plain v | none => false) = true := by
    rw [ho]
    simp [Op.operands, hx, hy, plain]
  have h3 : execOp (fun x => (ρ x).getD undef) o = pure (.value v) := by
    simp only [execOp, ho, hx, hy, Option.getD_some, eqGuard_int, pure_bind, hb]
  have h4 : runP P (execOp (fun x => (ρ x).getD undef) o) = some (.value v) := by rw [h3]; rfl
  refine (if_neg (by rw [h1]; exact Bool.false_ne_true)).trans ((if_pos h2).trans ?_)
  rw [h4]
  exact if_pos hv
theorem intOpF_eq {op : BinOp} {k : IntKind} {m n : Int} {v : Value} (t : TypeId) (h : intOpF op k m n = some v) : binOp op t (.int k m) (.int k n) = pure v ∧ plain v = true := by
  cases op <;> simp only [intOpF] at h <;> first
    | cases h; done
    | exact bitOpF_eq t h (by simp)
    | (simp only [Option.some.injEq] at h; subst h; refine ⟨?_, rfl⟩; simp only [binOp, ne_eq, not_true_eq_false, if_false, Op.intArith, Op.intCmp, wrapF_eq, intAddF_eq, intEqF_eq, intLtF_eq] <;> first | rfl | (congr 2; done) | (congr 2; first | rfl | (simp [bne]; done) | (by_cases hh : m < n <;> by_cases hg : n < m <;> simp [hh, hg] <;> omega)))

theorem lexecF_eq (P : Program) (orc : Orc) (ih : Task → Option Res) (a : LAct) (h : LH) (o : Oper) : lexecF P orc ih a h o = lexec P orc ih a h o := by
  obtain ⟨dst, op, type, pos, after, guard⟩ := o
  cases op <;> try rfl
  case move x =>
    show ob (levF x a) _ = _
    rw [levF_eq]
    simp only [lexec, isDefer, lop, Bool.false_eq_true, if_false]
    cases lev a x <;> rfl
  case assign x =>
    show ob (levF x a) _ = _
    rw [levF_eq]
    simp only [lexec, isDefer, lop, Bool.false_eq_true, if_false]
    cases lev a x <;> rfl
  case load t x =>
    show ob (levF x a) (fun v => ob (lloadF P h t v) fun u => some (u, h)) = _
    rw [levF_eq]
    simp only [lexec, isDefer, lop, Bool.false_eq_true, if_false]
    cases lev a x with
    | none => rfl
    | some v => simp only [ob_some, lloadF_eq]; cases lload P h t v <;> rfl
  case nilCheck x =>
    show ob (levF x a) (fun v => ob (asPtrF v) fun p => some (Value.pointer (some p), h)) = _
    rw [levF_eq]
    simp only [lexec, isDefer, lop, Bool.false_eq_true, if_false]
    cases lev a x with
    | none => rfl
    | some v =>
      cases v with
      | pointer p => cases p <;> rfl
      | _ => rfl
  case fieldAddr t x f =>
    show ob (levF x a) (fun v => ob (lfieldAddrF P t v f) fun u => some (u, h)) = _
    rw [levF_eq]
    simp only [lexec, isDefer, lop, Bool.false_eq_true, if_false]
    cases lev a x with
    | none => rfl
    | some v => simp only [ob_some, lfieldAddrF_eq]; cases lfieldAddr P t v f <;> rfl
  case indexAddr t x y =>
    show ob (levF x a) (fun v => ob (levF y a) fun i => ob (lindexAddrF P t v i) fun u => some (u, h)) = _
    rw [levF_eq]
    simp only [lexec, isDefer, lop, Bool.false_eq_true, if_false]
    cases lev a x with
    | none => rfl
    | some v =>
      simp only [ob_some]
      rw [levF_eq]
      cases lev a y with
      | none => rfl
      | some i => simp only [ob_some, lindexAddrF_eq]; cases lindexAddr P t v i <;> rfl
  case extract x i =>
    show ob (levF x a) (fun v => ob (asTupF v) fun vs => ob (nthF vs.toList i) fun u => some (u, h)) = _
    rw [levF_eq]
    simp only [lexec, isDefer, lop, Bool.false_eq_true, if_false]
    cases lev a x with
    | none => rfl
    | some v =>
      cases v with
      | tuple vs =>
        show ob (nthF vs.toList i) _ = _
        rw [nthF_eq, Array.getElem?_toList]
        simp only [lextract]
        cases vs[i]? <;> rfl
      | _ => rfl
  case binOp op t x y yt =>
    generalize hs : lexec P orc ih a h ⟨dst, .binOp op t x y yt, type, pos, after, guard⟩ = slow
    show ob (levF x a) (fun u => ob (levF y a) fun v => dInt2 op u v h (lexec P orc ih a h ⟨dst, .binOp op t x y yt, type, pos, after, guard⟩)) = _
    rw [hs, levF_eq]
    have hx0 : lev a x = none → slow = none := by
      intro h0; rw [← hs]; simp only [lexec, isDefer, lop, Bool.false_eq_true, if_false, h0]
    cases hx : lev a x with
    | none => rw [hx0 hx]; rfl
    | some u =>
      simp only [ob_some]
      rw [levF_eq]
      cases hy : lev a y with
      | none => rw [← hs]; simp only [lexec, isDefer, lop, Bool.false_eq_true, if_false, hx, hy]; rfl
      | some v =>
        simp only [ob_some]
        cases u <;> try rfl
        cases v <;> try rfl
        rename_i j m k n
        have done : ∀ {z : Value}, binOp op t (.int j m) (.int k n) = pure z → plain z = true → some (z, h) = slow := by
          intro z h1 h2
          have h3 := lplain_int (P := P) (ρ := lev a) (o := ⟨dst, .binOp op t x y yt, type, pos, after, guard⟩) rfl hx hy h1 h2
          have hnil : lbinOp P op t (.int j m) (.int k n) = none := by
            unfold lbinOp
            have hd : ∀ d, lnilEq d (.int j m) (.int k n) = none := fun d => by cases d <;> rfl
            simp only [hd]
            cases P.underlying t with
            | none => rfl
            | some d => cases op <;> rfl
          rw [← hs]
          simp only [lexec, isDefer, lop, Bool.false_eq_true, if_false, hx, hy, hnil, h3]
        show Option.rec (motive := fun _ => Option (Value × LH)) (bb (kindF j k) (Option.rec (motive := fun _ => Option (Value × LH)) slow (fun v => some (v, h)) (intOpF op j m n)) slow) (fun v => some (v, h)) (shiftF op j m n) = slow
        cases hsh : shiftF op j m n with
        | some z => obtain ⟨h1, h2⟩ := shiftF_eq t hsh; exact done h1 h2
        | none =>
          simp only []
          cases hk : kindF j k with
          | false => rfl
          | true =>
            obtain rfl := kindF_eq hk
            simp only [bb_true]
            cases hi : intOpF op j m n with
            | none => rfl
            | some z =>
              obtain ⟨h1, h2⟩ := intOpF_eq t hi
              exact done h1 h2
  case call c =>
    obtain ⟨callee, args, argTypes⟩ := c
    cases callee with
    | invoke r m => rfl
    | builtin b => rfl
    | value fx =>
      show ob (levF fx a) (fun fv => ob (evalsF a args.toList) fun vs => ob (asFunF fv) (dCallF P orc ih h fv vs)) = _
      rw [levF_eq]
      simp only [lexec, isDefer, Bool.false_eq_true, if_false]
      cases lev a fx with
      | none => rfl
      | some fv =>
        simp only [ob_some, evalsF_eq]
        cases evals (lev a) args.toList with
        | none => rfl
        | some vs =>
          simp only [ob_some]
          cases fv <;> try rfl
          rename_i fn fs cs
          cases fn <;> try rfl
          rename_i f
          show lfunF P orc ih h f (appF fs.toList (appF vs cs.toList)) = lfun P orc ih h f (fs.toList ++ vs ++ cs.toList)
          rw [appF_eq, appF_eq, ← List.append_assoc]
          unfold lfunF
          cases ho : orc f with
          | some g => rfl
          | none =>
            simp only []
            rw [bb_ite]
            split
            · rename_i hp
              unfold lfun
              simp only [ho, hp, if_true]
              cases ih (.call f (fs.toList ++ vs ++ cs.toList) h) with
              | none => rfl
              | some r => cases r <;> rfl
            · rfl
end
end Go.Proofs.YtedfhallhpkkhaaGreatDoor.X
