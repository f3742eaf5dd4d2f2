/- A tree of runs is right: what it gives is what the run gives; contracts of calls out of it. Any program. -/
import Derived.Test.YtedfhallhpkkhaaGreatDoorXD
set_option linter.unusedVariables false
set_option linter.unusedSimpArgs false
namespace Go.Proofs.YtedfhallhpkkhaaGreatDoor.X
open Go Go.RowKit

theorem plift_ok {α : Type} {x : Option α} {s s' : Sp} {a : α} (h : (plift x s).get = some (a, s')) : x = some a := by
  obtain ⟨b, h1, h2⟩ := ot_get h
  have := leaf_get h2
  simp only [Prod.mk.injEq] at this
  rw [h1, this.1]
def callV : Op → Bool
  | .call ⟨.value _, _, _⟩ => true
  | _ => false
theorem lexec_ih (P : Program) (orc : Orc) (i1 i2 : Rec) (a : LAct) (h : LH) (o : Oper) (hc : callV o.op = false) : lexecF P orc i1 a h o = lexecF P orc i2 a h o := by
  rw [lexecF_eq, lexecF_eq]
  obtain ⟨dst, op, type, pos, after, guard⟩ := o
  cases op <;> try rfl
  rename_i c
  obtain ⟨callee, args, tys⟩ := c
  cases callee <;> first | rfl | (cases hc; done)
section
variable {P : Program} {orc : Orc} {any : Any} {exp : Exp} {pih : PRec} {ih : Rec}
theorem pres_ok (hp : PSound pih ih) {t : Task} {s s' : Sp} {p : Value × LH} (h : (tb (pih t s) presVal).get = some (p, s')) : ob (ih t) resVal = some p := by
  obtain ⟨⟨r, s1⟩, h1, h2⟩ := tb_get h
  obtain ⟨q, h3, h4⟩ := ot_get (x := resVal r) h2
  have := leaf_get h4
  simp only [Prod.mk.injEq] at this
  rw [hp _ _ _ _ h1]
  show resVal r = some p
  rw [h3, this.1]
theorem pfun0_ok (hp : PSound pih ih) {h : LH} {f : FuncId} {args : List Value} {s s' : Sp} {p : Value × LH} (hh : (pfun0 P orc pih h f args s).get = some (p, s')) : lfunF P orc ih h f args = some p := by
  unfold pfun0 at hh
  unfold lfunF
  cases ho : orc f with
  | some g =>
    rw [ho] at hh
    have h1 := plift_ok hh
    show lfun P orc ih h f args = some p
    rw [← h1]
    unfold lfun
    rw [ho]
  | none =>
    rw [ho] at hh
    replace hh : (bb (isPlainFn P f) (tb (pih (.call f args h) s) presVal) (plift (lfun P orc (fun _ => none) h f args) s)).get = some (p, s') := hh
    show bb (isPlainFn P f) (ob (ih (.call f args h)) resVal) (lfun P orc ih h f args) = some p
    rw [bb_ite] at hh ⊢
    split at hh
    · rename_i hpl
      rw [if_pos hpl]
      exact pres_ok hp hh
    · rename_i hpl
      have h1 := plift_ok hh
      rw [if_neg hpl, ← h1]
      unfold lfun
      rw [ho]
      simp only [if_neg hpl]
theorem pfun_ok (hx : ExpOk P orc exp) (hp : PSound pih ih) {h : LH} {f : FuncId} {args : List Value} {s s' : Sp} {p : Value × LH} (hh : (pfun P orc exp pih h f args s).get = some (p, s')) : lfunF P orc ih h f args = some p := by
  unfold pfun at hh
  cases hl : plook exp f with
  | none => rw [hl] at hh; exact pfun0_ok hp hh
  | some q =>
    rw [hl] at hh
    obtain ⟨args0, v⟩ := q
    replace hh : bb (veqL args0 args) (BT.leaf ((v, h), s)).get none = some (p, s') := hh
    rw [bb_ite] at hh
    split at hh
    case isFalse => cases hh
    rename_i he
    have := leaf_get hh
    simp only [Prod.mk.injEq] at this
    obtain ⟨rfl, rfl⟩ := this
    have := veqL_eq _ _ he
    subst this
    obtain ⟨g, h1, h2, h3, h4, h5⟩ := hx f args0 v (plook_mem hl)
    unfold lfunF
    rw [h1]
    show lfun P orc ih h f args0 = _
    unfold lfun
    rw [h1]
    simp only [h2, h3, and_self, if_true, h4, h5]
theorem pcallF_ok (hx : ExpOk P orc exp) (hp : PSound pih ih) {h : LH} {fv : Value} {vs : List Value} {q : Fn × Array Value × Array Value} (hq : asFunF fv = some q) {s s' : Sp} {p : Value × LH} (hh : (pcallF P orc exp pih h vs s q).get = some (p, s')) : dCallF P orc ih h fv vs q = some p := by
  obtain ⟨fn, fs, cs⟩ := q
  cases fn <;> try (cases hh; done)
  case func f => exact pfun_ok hx hp hh
  case yield l =>
    replace hh : (tb (pih (.round l (appF fs.toList vs) h) s) presVal).get = some (p, s') := hh
    show lcallV P orc ih h fv vs = some p
    have h2 := pres_ok hp hh
    have hv : fv = .func (.yield l) fs cs := by
      cases fv <;> first | (cases hq; done) | (have hq : some _ = some _ := hq; simp only [Option.some.injEq, Prod.mk.injEq] at hq; obtain ⟨rfl, rfl, rfl⟩ := hq; rfl)
    subst hv
    rw [appF_eq] at h2
    simp only [lcallV]
    revert h2
    cases ih (.round l (fs.toList ++ vs) h) with
    | none => intro h2; cases h2
    | some r => cases r with
      | code e a h' => intro h2; cases h2
      | val v h' => intro h2; exact h2
theorem pslow_ok {a : LAct} {h : LH} {o : Oper} {s s' : Sp} {p : Value × LH} (hc : callV o.op = false) (hh : (pslow P orc a h o s).get = some (p, s')) : lexecF P orc ih a h o = some p := by
  rw [← plift_ok hh]
  exact lexec_ih P orc _ _ a h o hc
theorem otmp_get {x : Operand} {a : LAct} {v : Value} (h : levF x a = some v) : ∀ j c, otmp x = some j → asBoolF v = some c → a.tmps.get j = some v := by
  intro j c hj hc
  unfold otmp at hj
  split at hj
  · simp only [Option.some.injEq] at hj
    subst hj
    rw [levF_eq] at h
    simp only [lev, Option.some.injEq] at h
    rename_i t
    cases ht : a.tmps.get t with
    | none => rw [ht] at h; subst h; cases hc
    | some u => rw [ht] at h; simp only [Option.getD_some] at h; rw [h]
  · cases hj
theorem pexec_ok (hx : ExpOk P orc exp) (hp : PSound pih ih) {a : LAct} {h : LH} {o : Oper} {s s' : Sp} {p : Value × LH} (hh : (pexec P orc exp pih a h o s).get = some (p, s')) : lexecF P orc ih a h o = some p := by
  obtain ⟨dst, op, type, pos, after, guard⟩ := o
  cases op <;> try exact pslow_ok rfl hh
  case pick c x y =>
    obtain ⟨v, h1, hh⟩ := ot_get hh
    obtain ⟨u, h2, hh⟩ := ot_get hh
    obtain ⟨w, h3, hh⟩ := ot_get hh
    obtain ⟨⟨b, a1, s1⟩, h4, hh⟩ := tb_get hh
    have := leaf_get hh
    simp only [Prod.mk.injEq] at this
    obtain ⟨rfl, rfl⟩ := this
    obtain ⟨h6, _⟩ := pdec_ok (otmp_get h1) h4
    have := asBoolF_some h6
    subst this
    rw [levF_eq] at h1 h2 h3
    rw [lexecF_eq]
    simp only [lexec, isDefer, lop, Bool.false_eq_true, if_false, h1, h2, h3]
    cases b <;> rfl
  case makeSlice t x y =>
    obtain ⟨u, h1, hh⟩ := ot_get (x := levF x a) hh
    obtain ⟨w, h2, hh⟩ := ot_get (x := levF y a) hh
    have h3 := fmake_ok P (plift_ok hh)
    rw [levF_eq] at h1 h2
    rw [lexecF_eq]
    simp only [lexec, isDefer, lop, Bool.false_eq_true, if_false, h1, h2]
    exact h3
  case call c =>
    obtain ⟨callee, args, argTypes⟩ := c
    cases callee with
    | invoke r m => exact pslow_ok (s := s) rfl hh
    | builtin b => exact pslow_ok (s := s) rfl hh
    | value fx =>
      obtain ⟨fv, h1, hh⟩ := ot_get (x := levF fx a) hh
      obtain ⟨vs, h2, hh⟩ := ot_get hh
      obtain ⟨q, h3, hh⟩ := ot_get hh
      have h5 := pcallF_ok hx hp h3 hh
      show ob (levF fx a) (fun fv => ob (evalsF a args.toList) fun vs => ob (asFunF fv) (dCallF P orc ih h fv vs)) = _
      rw [h1, ob_some, h2, ob_some, h3]
      exact h5
theorem pops_ok (hx : ExpOk P orc exp) (hp : PSound pih ih) (all : List Oper) : ∀ (l : List Oper) {a : LAct} {h : LH} {s s' : Sp} {p : LAct × LH}, (pops P orc exp pih all l a h s).get = some (p, s') → opsF P orc ih all l a h = some p
  | [], a, h, s, s', p, hh => by
    have := leaf_get hh
    simp only [Prod.mk.injEq] at this
    obtain ⟨rfl, rfl⟩ := this
    rfl
  | o :: l, a, h, s, s', p, hh => by
    obtain ⟨⟨b, a1, s1⟩, h1, hh⟩ := tb_get (x := pwanted all a o.guard s) hh
    obtain ⟨⟨⟨v, h'⟩, s2⟩, h2, hh⟩ := tb_get hh
    obtain ⟨a', h3, hh⟩ := ot_get hh
    have h5 := pops_ok hx hp all l hh
    obtain ⟨h9, rfl⟩ := pwanted_ok h1
    show ob (bb (wantedF all a1 o.guard) (lexecF P orc ih a1 h o) (some (undef, h))) (fun p => Prod.rec (motive := fun _ => Option (LAct × LH)) (fun v h' => ob (putF a1 o.dst v) fun a' => opsF P orc ih all l a' h') p) = some p
    cases b with
    | true =>
      replace h2 : (pexec P orc exp pih a1 h o s1).get = some ((v, h'), s2) := h2
      have h7 := pexec_ok hx hp h2
      rw [h9, bb_true, h7]
      show ob (putF a1 o.dst v) _ = _
      replace h3 : putF a1 o.dst v = some a' := h3
      rw [h3]
      exact h5
    | false =>
      have := leaf_get (show (BT.leaf ((undef, h), s1)).get = some ((v, h'), s2) from h2)
      simp only [Prod.mk.injEq] at this
      obtain ⟨⟨rfl, rfl⟩, rfl⟩ := this
      rw [h9, bb_false]
      show ob (putF a1 o.dst undef) _ = _
      replace h3 : putF a1 o.dst undef = some a' := h3
      rw [h3]
      exact h5
theorem pend_ok {a : LAct} {h : LH} {s s' : Sp} {e : LExit} {r : Res} (hh : (pend a h s e).get = some (r, s')) : endR a h e = some r := by
  have := leaf_get hh
  simp only [Prod.mk.injEq] at this
  obtain ⟨rfl, rfl⟩ := this
  rfl
theorem pcodeR_ok (hp : PSound pih ih) {t : Task} {s s' : Sp} {k : LExit → LAct → LH → Sp → BT (Res × Sp)} {k' : LExit → LAct → LH → Option Res} {r : Res} (hk : ∀ e a h s1, (k e a h s1).get = some (r, s') → k' e a h = some r)
    (hh : (pcodeR (pih t s) k).get = some (r, s')) : codeR (ih t) k' = some r := by
  obtain ⟨⟨x, s1⟩, h1, hh⟩ := tb_get hh
  rw [hp _ _ _ _ h1]
  cases x with
  | code e a h => exact hk e a h s1 hh
  | val v h =>
    have := leaf_get (show (BT.leaf (Res.val v h, s1)).get = some (r, s') from hh)
    simp only [Prod.mk.injEq] at this
    obtain ⟨rfl, rfl⟩ := this
    rfl
theorem pcode_ok (hx : ExpOk P orc exp) (hp : PSound pih ih) {c : Code} {ro : Option Nat} {a : LAct} {h : LH} {s s' : Sp} {r : Res} (hh : (pcode P orc any exp pih ih c ro a h s).get = some (r, s')) : lcodeF c P orc any ih ro a h = some r := by
  cases c <;> try (first | (cases hh; done) | exact pend_ok hh)
  case region id ops draw =>
    obtain ⟨⟨⟨a', h'⟩, s1⟩, h1, hh⟩ := tb_get (x := bb draw (plift (any ih ops a h) s) (pops P orc exp pih ops.toList ops.toList a h s)) hh
    have h3 := pend_ok hh
    show ob (bb draw (any ih ops a h) (opsF P orc ih ops.toList ops.toList a h)) _ = _
    cases draw with
    | true =>
      rw [bb_true, plift_ok h1]
      exact h3
    | false =>
      rw [bb_false, pops_ok hx hp _ _ h1]
      exact h3
  case seq x y =>
    replace hh : (pcodeR (pih (.code ro x a h) s) (fun e a' h' s' => pexitR e (pih (.code ro y a' h') s') (fun i => pend a' h' s' (.exit i)) (pend a' h' s' .ret))).get = some (r, s') := hh
    refine pcodeR_ok hp (fun e a1 h1 s1 hk => ?_) hh
    cases e with
    | normal => exact hp _ _ _ _ hk
    | exit i => exact pend_ok hk
    | ret => exact pend_ok hk
  case cond x c d =>
    obtain ⟨v, h1, hh⟩ := ot_get (x := levF x a) hh
    obtain ⟨⟨b, a1, s1⟩, h2, hh⟩ := tb_get hh
    have h4 := hp _ _ _ _ hh
    obtain ⟨h6, rfl⟩ := pdec_ok (otmp_get h1) h2
    show ob (levF x a1) (fun v => ob (asBoolF v) fun b => ih (.code ro (bb b c d) a1 h)) = _
    rw [h1, ob_some, h6]
    exact h4
  case block i c =>
    replace hh : (pcodeR (pih (.code ro c a h) s) (fun e a' h' s' => pexitR e (pend a' h' s' .normal) (fun j => bb (Nat.beq j i) (pend a' h' s' .normal) (pend a' h' s' (.exit j))) (pend a' h' s' .ret))).get = some (r, s') := hh
    refine pcodeR_ok hp (fun e a1 h1 s1 hk => ?_) hh
    cases e with
    | normal => exact pend_ok hk
    | exit j =>
      replace hk : (bb (Nat.beq j i) (pend a1 h1 s1 .normal) (pend a1 h1 s1 (.exit j))).get = some (r, s') := hk
      show bb (Nat.beq j i) (endR a1 h1 .normal) (endR a1 h1 (.exit j)) = some r
      cases hb : Nat.beq j i with
      | true => rw [hb] at hk; exact pend_ok hk
      | false => rw [hb] at hk; exact pend_ok hk
    | ret => exact pend_ok hk
  case loop c =>
    replace hh : (pcodeR (pih (.code ro c a h) s) (fun e a' h' s' => pexitR e (pih (.code ro (.loop c) a' h') s') (fun j => pend a' h' s' (.exit j)) (pend a' h' s' .ret))).get = some (r, s') := hh
    refine pcodeR_ok hp (fun e a1 h1 s1 hk => ?_) hh
    cases e with
    | normal => exact hp _ _ _ _ hk
    | exit i => exact pend_ok hk
    | ret => exact pend_ok hk
theorem pcallFF_ok (hp : PSound pih ih) {f : FuncId} {args : List Value} {h : LH} {s s' : Sp} {r : Res} (hh : (pcallFF P pih f args h s).get = some (r, s')) : lcallFF P ih f args h = some r := by
  obtain ⟨fn, h1, hh⟩ := ot_get (x := P.funcs[f]?) hh
  obtain ⟨c, h2, hh⟩ := ot_get hh
  obtain ⟨t, h3, hh⟩ := ot_get hh
  obtain ⟨⟨x, s1⟩, h4, hh⟩ := tb_get hh
  unfold lcallFF
  rw [h1, ob_some, h2, ob_some, h3, ob_some, hp _ _ _ _ h4]
  cases x with
  | val v h' => cases hh
  | code e a' h' =>
    have fin : (ot (marksF h' a'.marks) fun h2 => ot (resultsF P a' h2 fn.results.toList) fun vs => plift (valsF vs h2) s1).get = some (r, s') → (ob (marksF h' a'.marks) fun h2 => ob (resultsF P a' h2 fn.results.toList) fun vs => valsF vs h2) = some r := by
      intro hh
      obtain ⟨h2, h5, hh⟩ := ot_get hh
      obtain ⟨vs, h6, hh⟩ := ot_get hh
      rw [h5, ob_some, h6, ob_some]
      exact plift_ok hh
    cases e with
    | exit i => cases hh
    | normal => exact fin hh
    | ret => exact fin hh
end
theorem prun_ok (P : Program) (orc : Orc) (any : Any) (exp : Exp) (hx : ExpOk P orc exp) : ∀ n, PSound (prun P orc any exp n) (lrunF P orc any n)
  | 0 => fun t s r s' h => by cases h
  | n + 1 => fun t s r s' hh => by
    have hp := prun_ok P orc any exp hx n
    cases t with
    | code ro c a h => exact pcode_ok hx hp hh
    | call f args h => exact pcallFF_ok hp hh
    | round l args h => cases hh

/-! ### Contracts of calls -/
noncomputable def resIs (f : Value → Bool) (r : Res × Sp) : Bool := Res.rec (motive := fun _ => Bool) (fun _ _ _ => false) (fun v _ => f v) r.1
noncomputable def isIntF (v : Value) : Bool := Option.rec (motive := fun _ => Bool) false (fun p => kindF p.1 .i64) (asIntF v)
theorem isIntF_some {v : Value} (h : isIntF v = true) : ∃ n, v = .int .i64 n := by
  cases v <;> first | (cases h; done) | skip
  rename_i k n
  have h : kindF k .i64 = true := h
  exact ⟨n, by rw [kindF_eq h]⟩
/-- All ends of the tree are whole numbers: the call gives one. -/
theorem fact_of_tree {P : Program} {orc : Orc} {exp : Exp} {n : Nat} {f : FuncId} {args : List Value} {s : Sp} (ho : OrcFacts P orc) (hx : ExpOk P orc exp) (hp : plainL args = true)
    (hr : (prun P orc (X.anyF P orc) exp n (.call f args ⟨.nil, 7⟩) s).all (resIs isIntF) = true) (hn : ∀ c ∈ (prun P orc (X.anyF P orc) exp n (.call f args ⟨.nil, 7⟩) s).needs, c = true) : ∃ e : Int, Fact P f args (.int .i64 e) := by
  obtain ⟨⟨r, s'⟩, h1, h2⟩ := all_get hr hn
  have h3 := prun_ok P orc _ exp hx n _ _ _ _ h1
  cases r with
  | code e a h => cases h2
  | val v h =>
    obtain ⟨e, rfl⟩ := isIntF_some (show isIntF v = true from h2)
    refine ⟨e, fact_of_val (n := n) ho hp rfl ?_⟩
    rw [h3]
    rfl
end Go.Proofs.YtedfhallhpkkhaaGreatDoor.X
