/- Runs that part at conditions which are not known: a tree of runs. Any program. -/
import Derived.Test.YtedfhallhpkkhaaGreatDoorX6
set_option linter.unusedVariables false
set_option linter.unusedSimpArgs false
namespace Go.Proofs.YtedfhallhpkkhaaGreatDoor.X
open Go Go.RowKit
noncomputable section

/-- A tree of what may come, by conditions; `must`: a condition that is left to show. -/
inductive BT (α : Type) where
  | bad
  | leaf (a : α)
  | node (c : Bool) (x y : BT α)
  | must (c : Bool) (x : BT α)
def tb {α β : Type} (x : BT α) (f : α → BT β) : BT β := BT.rec (motive := fun _ => BT β) .bad f (fun c _ _ u v => .node c u v) (fun c _ u => .must c u) x
def ot {α β : Type} (x : Option α) (f : α → BT β) : BT β := Option.rec (motive := fun _ => BT β) .bad f x
def BT.get {α : Type} (x : BT α) : Option α := BT.rec (motive := fun _ => Option α) none some (fun c _ _ u v => bb c u v) (fun c _ u => bb c u none) x
/-- All leaves are good. -/
def BT.all {α : Type} (f : α → Bool) (x : BT α) : Bool := BT.rec (motive := fun _ => Bool) false f (fun _ _ _ u v => bb u v false) (fun _ _ u => u) x
/-- What is left to show. -/
def BT.needs {α : Type} (x : BT α) : List Bool := BT.rec (motive := fun _ => List Bool) [] (fun _ => []) (fun _ _ _ u v => appF u v) (fun c _ u => c :: u) x
theorem BT.get_node {α : Type} (c : Bool) (x y : BT α) : (BT.node c x y).get = bb c x.get y.get := rfl
theorem tb_get {α β : Type} {f : α → BT β} {y : β} : ∀ {x : BT α}, (tb x f).get = some y → ∃ a, x.get = some a ∧ (f a).get = some y
  | .bad, h => by cases h
  | .leaf a, h => ⟨a, rfl, h⟩
  | .node c u v, h => by
    have h : bb c (tb u f).get (tb v f).get = some y := h
    cases c with
    | true => exact tb_get (x := u) h
    | false => exact tb_get (x := v) h
  | .must c u, h => by
    have h : bb c (tb u f).get none = some y := h
    cases c with
    | true => exact tb_get (x := u) h
    | false => cases h
theorem ot_get {α β : Type} {f : α → BT β} {y : β} {x : Option α} (h : (ot x f).get = some y) : ∃ a, x = some a ∧ (f a).get = some y := by
  cases x with
  | none => cases h
  | some a => exact ⟨a, rfl, h⟩
theorem leaf_get {α : Type} {a y : α} (h : (BT.leaf a).get = some y) : a = y := by
  have h : some a = some y := h
  simpa using h
theorem all_get {α : Type} {f : α → Bool} : ∀ {x : BT α}, x.all f = true → (∀ c ∈ x.needs, c = true) → ∃ a, x.get = some a ∧ f a = true
  | .bad, h, _ => by cases h
  | .leaf a, h, _ => ⟨a, rfl, h⟩
  | .node c u v, h, hn => by
    replace h : bb (u.all f) (v.all f) false = true := h
    replace hn : ∀ c ∈ appF u.needs v.needs, c = true := hn
    rw [appF_eq] at hn
    rw [bb_ite] at h
    split at h
    · rename_i hu
      cases c with
      | true => exact all_get (x := u) hu fun c hc => hn c (List.mem_append_left _ hc)
      | false => exact all_get (x := v) h fun c hc => hn c (List.mem_append_right _ hc)
    · cases h
  | .must c u, h, hn => by
    replace hn : ∀ d ∈ c :: u.needs, d = true := hn
    have hc := hn c (by simp)
    subst hc
    exact all_get (x := u) h fun d hd => hn d (List.mem_cons_of_mem _ hd)

/-- Where to part: at the next look at this temporary; how to go on on either side. -/
inductive Sp where
  | go
  | ask (t : Nat) (x y : Sp)

theorem T.setIn_same {α : Type} (x : α) : ∀ (n : Nat) (t : T α) (k : Nat), k < n → t.get k = some x → T.setIn n (some x) t k = t := by
  intro n
  induction n with
  | zero => intro t k h; omega
  | succ n ih =>
    intro t k h hg
    cases t with
    | nil => cases hg
    | node l v r =>
      rcases split3 k with rfl | ⟨j, rfl⟩ | ⟨j, rfl⟩
      · have hg : v = some x := hg
        rw [hg]
        rfl
      · rw [T.get_odd] at hg
        have h1 : Nat.mod (2 * j) 2 = 0 := by show (2 * j) % 2 = 0; omega
        have h2 : Nat.div (2 * j) 2 = j := by show (2 * j) / 2 = j; omega
        show Nat.rec (motive := fun _ => T α) (T.node (T.setIn n (some x) l (Nat.div (2 * j) 2)) v r) (fun _ _ => T.node l v (T.setIn n (some x) r (Nat.div (2 * j) 2))) (Nat.mod (2 * j) 2) = _
        rw [h1, h2]
        show T.node (T.setIn n (some x) l j) v r = _
        rw [ih l j (by omega) hg]
      · rw [T.get_even] at hg
        have h1 : Nat.mod (2 * j + 1) 2 = 0 + 1 := by show (2 * j + 1) % 2 = 0 + 1; omega
        have h2 : Nat.div (2 * j + 1) 2 = j := by show (2 * j + 1) / 2 = j; omega
        show Nat.rec (motive := fun _ => T α) (T.node (T.setIn n (some x) l (Nat.div (2 * j + 1) 2)) v r) (fun _ _ => T.node l v (T.setIn n (some x) r (Nat.div (2 * j + 1) 2))) (Nat.mod (2 * j + 1) 2) = _
        rw [h1, h2]
        show T.node l v (T.setIn n (some x) r j) = _
        rw [ih r j (by omega) hg]
theorem T.set_same {α : Type} {t : T α} {k : Nat} {x : α} (h : t.get k = some x) : t.set k (some x) = t := T.setIn_same x _ t k (Nat.lt_succ_self k) h
def aset (a : LAct) (t : Nat) (v : Value) : LAct := LAct.rec (motive := fun _ => LAct) (fun m n l => ⟨m.set t (some v), n, l⟩) a
theorem aset_same {a : LAct} {t : Nat} {v : Value} (h : a.tmps.get t = some v) : aset a t v = a := by
  obtain ⟨m, n, l⟩ := a
  show LAct.mk (m.set t (some v)) n l = _
  rw [T.set_same h]

abbrev Dec := Bool × LAct × Sp
def pcomp (v : Value) (a : LAct) (s : Sp) : BT Dec := ot (asBoolF v) fun b => .leaf (b, a, s)
def pask (k : Option Nat) (v : Value) (a : LAct) (s : Sp) (comp : BT Dec) : BT Dec :=
  Sp.rec (motive := fun _ => BT Dec) comp (fun t p q _ _ => Option.rec (motive := fun _ => BT Dec) comp (fun j => bb (Nat.beq t j) (ot (asBoolF v) fun c => .node c (.leaf (true, aset a t (.bool true), p)) (.leaf (false, aset a t (.bool false), q))) comp) k) s
theorem asBoolF_some {v : Value} {b : Bool} (h : asBoolF v = some b) : v = .bool b := by
  cases v <;> first | (cases h; done) | (replace h : some _ = some _ := h; simp only [Option.some.injEq] at h; rw [h])
theorem pask_ok {k : Option Nat} {v : Value} {a a' : LAct} {s s' : Sp} {comp : BT Dec} {b : Bool} {Q : Prop} (hk : ∀ j c, k = some j → asBoolF v = some c → a.tmps.get j = some v) (hc : comp.get = some (b, a', s') → Q) (hq : asBoolF v = some b → a' = a → Q)
    (h : (pask k v a s comp).get = some (b, a', s')) : Q := by
  cases s with
  | go => exact hc h
  | ask t p q =>
    cases k with
    | none => exact hc h
    | some j =>
      replace h : (bb (Nat.beq t j) (ot (asBoolF v) fun c => BT.node c (.leaf (true, aset a t (.bool true), p)) (.leaf (false, aset a t (.bool false), q))) comp).get = some (b, a', s') := h
      rw [bb_ite, nat_beq] at h
      split at h
      · rename_i he
        simp only [decide_eq_true_eq] at he
        subst he
        obtain ⟨c, h1, h2⟩ := ot_get h
        have hv := asBoolF_some h1
        replace hk := hk t c rfl h1
        subst hv
        rw [BT.get_node] at h2
        cases c with
        | true =>
          have := leaf_get h2
          simp only [Prod.mk.injEq] at this
          obtain ⟨rfl, rfl, rfl⟩ := this
          exact hq rfl (aset_same hk)
        | false =>
          have := leaf_get h2
          simp only [Prod.mk.injEq] at this
          obtain ⟨rfl, rfl, rfl⟩ := this
          exact hq rfl (aset_same hk)
      · exact hc h
def pdec (k : Option Nat) (v : Value) (a : LAct) (s : Sp) : BT Dec := pask k v a s (pcomp v a s)
theorem pdec_ok {k : Option Nat} {v : Value} {a a' : LAct} {s s' : Sp} {b : Bool} (hk : ∀ j c, k = some j → asBoolF v = some c → a.tmps.get j = some v) (h : (pdec k v a s).get = some (b, a', s')) : asBoolF v = some b ∧ a' = a := by
  refine pask_ok hk (fun h => ?_) (fun h1 h2 => ⟨h1, h2⟩) h
  obtain ⟨c, h1, h2⟩ := ot_get h
  have := leaf_get h2
  simp only [Prod.mk.injEq] at this
  obtain ⟨rfl, rfl, rfl⟩ := this
  exact ⟨h1, rfl⟩

abbrev PRec := Task → Sp → BT (Res × Sp)
/-- What a tree of runs says of the run. -/
def PSound (pih : PRec) (ih : Rec) : Prop := ∀ t s r s', (pih t s).get = some (r, s') → ih t = some r

/-- Calls that are known ahead: the function, its arguments, what it gives. -/
abbrev Exp := List (FuncId × List Value × Value)
def plook (exp : Exp) (f : FuncId) : Option (List Value × Value) := List.rec (motive := fun _ => Option (List Value × Value)) none (fun p _ r => bb (Nat.beq p.1 f) (some p.2) r) exp
def ExpOk (P : Program) (orc : Orc) (exp : Exp) : Prop := ∀ f args v, (f, args, v) ∈ exp → ∃ g, orc f = some g ∧ isPlainFn P f = true ∧ plainL args = true ∧ g args = some v ∧ plain v = true
theorem plook_mem {f : FuncId} {p : List Value × Value} : ∀ {exp : Exp}, plook exp f = some p → (f, p) ∈ exp
  | [], h => by cases h
  | q :: exp, h => by
    replace h : bb (Nat.beq q.1 f) (some q.2) (plook exp f) = some p := h
    rw [bb_ite, nat_beq] at h
    split at h
    · rename_i he
      simp only [decide_eq_true_eq] at he
      simp only [Option.some.injEq] at h
      obtain ⟨a, b⟩ := q
      simp only at he h
      subst he; subst h
      simp
    · exact List.mem_cons_of_mem _ (plook_mem h)

section
variable (P : Program) (orc : Orc) (any : Any) (exp : Exp) (pih : PRec) (ih : Rec)

/-- Whether an operation is run. -/
def gtmp (all : List Oper) (j : Nat) : Option Nat := ob (nthF all j) fun o => o.dst
def pwanted (all : List Oper) (a : LAct) (g : Option (Nat × Bool)) (s : Sp) : BT Dec :=
  Option.rec (motive := fun _ => BT Dec) (.leaf (true, a, s)) (fun g =>
    Option.rec (motive := fun _ => BT Dec) (.leaf (false, a, s)) (fun t =>
      Option.rec (motive := fun _ => BT Dec) (.leaf (false, a, s)) (fun v =>
        tb (pask (some t) v a s (Option.rec (motive := fun _ => BT Dec) (.leaf (not g.2, a, s)) (fun b => .leaf (b, a, s)) (asBoolF v))) fun q => .leaf (bxnor q.1 g.2, q.2.1, q.2.2)) (T.get a.tmps t)) (gtmp all g.1)) g
theorem pwanted_ok {all : List Oper} {a a' : LAct} {g : Option (Nat × Bool)} {s s' : Sp} {b : Bool} (h : (pwanted all a g s).get = some (b, a', s')) : wantedF all a g = b ∧ a' = a := by
  cases g with
  | none =>
    have := leaf_get h
    simp only [Prod.mk.injEq] at this
    obtain ⟨rfl, rfl, rfl⟩ := this
    exact ⟨rfl, rfl⟩
  | some g =>
    obtain ⟨j, want⟩ := g
    show guardF all a (j, want) = b ∧ a' = a
    have he : yieldedF all a j = ob (gtmp all j) fun t => ob (T.get a.tmps t) asBoolF := by
      unfold yieldedF gtmp
      cases nthF all j with
      | none => rfl
      | some o => rfl
    unfold guardF
    show Option.rec (motive := fun _ => Bool) false (fun b => bxnor b want) (yieldedF all a j) = b ∧ a' = a
    rw [he]
    unfold pwanted at h
    simp only at h
    revert h
    cases gtmp all j with
    | none =>
      intro h
      have := leaf_get h
      simp only [Prod.mk.injEq] at this
      obtain ⟨rfl, rfl, rfl⟩ := this
      exact ⟨rfl, rfl⟩
    | some t =>
      simp only [ob_some]
      cases hv : T.get a.tmps t with
      | none =>
        intro h
        have := leaf_get h
        simp only [Prod.mk.injEq] at this
        obtain ⟨rfl, rfl, rfl⟩ := this
        exact ⟨rfl, rfl⟩
      | some v =>
        intro h
        obtain ⟨⟨c, a1, s1⟩, h1, h2⟩ := tb_get h
        have := leaf_get h2
        simp only [Prod.mk.injEq] at this
        obtain ⟨rfl, rfl, rfl⟩ := this
        refine pask_ok (fun j _ hj _ => by simp only [Option.some.injEq] at hj; subst hj; exact hv) (fun hc => ?_) (fun h3 h4 => ?_) h1
        · rw [ob_some]
          cases hb : asBoolF v with
          | none =>
            rw [hb] at hc
            have := leaf_get hc
            simp only [Prod.mk.injEq] at this
            obtain ⟨rfl, rfl, rfl⟩ := this
            refine ⟨?_, rfl⟩
            cases want <;> rfl
          | some b =>
            rw [hb] at hc
            have := leaf_get hc
            simp only [Prod.mk.injEq] at this
            obtain ⟨rfl, rfl, rfl⟩ := this
            exact ⟨rfl, rfl⟩
        · rw [ob_some, h3]
          exact ⟨rfl, h4⟩

abbrev VR := (Value × LH) × Sp
def presVal (r : Res × Sp) : BT VR := Prod.rec (motive := fun _ => BT VR) (fun r s => ot (resVal r) fun p => .leaf (p, s)) r
def plift {α : Type} (x : Option α) (s : Sp) : BT (α × Sp) := ot x fun a => .leaf (a, s)
def pfun0 (h : LH) (f : FuncId) (args : List Value) (s : Sp) : BT VR :=
  Option.rec (motive := fun _ => BT VR) (bb (isPlainFn P f) (tb (pih (.call f args h) s) presVal) (plift (lfun P orc (fun _ => none) h f args) s)) (fun _ => plift (lfun P orc (fun _ => none) h f args) s) (orc f)
def pfun (h : LH) (f : FuncId) (args : List Value) (s : Sp) : BT VR :=
  Option.rec (motive := fun _ => BT VR) (pfun0 P orc pih h f args s) (fun p => .must (veqL p.1 args) (.leaf ((p.2, h), s))) (plook exp f)
def pcallF (h : LH) (vs : List Value) (s : Sp) (p : Fn × Array Value × Array Value) : BT VR :=
  Fn.rec (motive := fun _ => BT VR) (fun f => pfun P orc exp pih h f (appF p.2.1.toList (appF vs p.2.2.toList)) s) (fun _ => .bad) (fun _ _ => .bad) (fun _ _ _ _ => .bad) (fun l => tb (pih (.round l (appF p.2.1.toList vs) h) s) presVal) p.1
def pcall2 (c : Call) (fx : Operand) (a : LAct) (h : LH) (s : Sp) : BT VR := ot (levF fx a) fun fv => ot (evalsF a c.args.toList) fun vs => ot (asFunF fv) (pcallF P orc exp pih h vs s)
def pslow (a : LAct) (h : LH) (o : Oper) (s : Sp) : BT VR := plift (lexecF P orc (fun _ => none) a h o) s
def pcall (c : Call) (a : LAct) (h : LH) (o : Oper) (s : Sp) : BT VR := Callee.rec (motive := fun _ => BT VR) (fun fx => pcall2 P orc exp pih c fx a h s) (fun _ _ => pslow P orc a h o s) (fun _ => pslow P orc a h o s) c.callee
def otmp (x : Operand) : Option Nat := match x with | .tmp t => some t | _ => none
def ppick (c x y : Operand) (a : LAct) (h : LH) (s : Sp) : BT VR := ot (levF c a) fun v => ot (levF x a) fun u => ot (levF y a) fun w => tb (pdec (otmp c) v a s) fun q => .leaf ((bb q.1 u w, h), q.2.2)
/-- A new row, without a look at each of its cells. -/
def fmake (h : LH) (t : TypeId) (len cap : Value) : Option (Value × LH) :=
  match P.underlying t, len, cap with
  | some (.slice elem), .int _ l, .int _ c =>
    match P.info? elem with
    | some ie =>
      match ie.zero with
      | some z =>
        if 0 ≤ l ∧ l ≤ c ∧ c ≤ 1000000 ∧ ie.bytes * 1000000 ≤ 281474976710656 then
          if plainA (zcs (c.toNat * ie.size) z) = true ∧ 0 < (zcs (c.toNat * ie.size) z).size then some (.slice (some ⟨h.next, 0, none⟩) l.toNat c.toNat, h.add (.cells (tile (c.toNat * ie.size) z).toList 0)) else none
        else none
      | none => none
    | none => none
  | _, _, _ => none
theorem tile_plain {n : Nat} {z : Value} (h1 : plainA (zcs n z) = true) (h2 : 0 < (zcs n z).size) : plainA (tile n z) = true := by
  have hl : ∀ a : Array Value, plainA a = true ↔ ∀ v ∈ a, plain v = true := fun a => by
    obtain ⟨l⟩ := a
    simp only [plainA, plainL_iff, List.mem_toArray]
  rw [hl] at h1 ⊢
  intro v hv
  unfold tile at hv
  simp only [Array.mem_map, Array.mem_range] at hv
  obtain ⟨i, _, rfl⟩ := hv
  have : i % (zcs n z).size < (zcs n z).size := Nat.mod_lt _ h2
  rw [getElem!_pos (zcs n z) _ this]
  exact h1 _ (Array.getElem_mem this)
theorem fmake_ok {h : LH} {t : TypeId} {len cap : Value} {p : Value × LH} (hv : fmake P h t len cap = some p) : lmakeSlice P h t len cap = some p := by
  unfold fmake at hv
  unfold lmakeSlice
  split at hv
  case h_2 => cases hv
  rename_i elem k1 l k2 c hu
  split at hv
  case h_2 => cases hv
  rename_i ie hie
  split at hv
  case h_2 => cases hv
  rename_i z hz
  split at hv
  case isFalse => cases hv
  rename_i hcond
  split at hv
  case isFalse => cases hv
  rename_i hpl
  simp only [hu, hie, hz]
  rw [if_pos hcond, if_pos (tile_plain hpl.1 hpl.2)]
  exact hv
def pmake (t : TypeId) (x y : Operand) (a : LAct) (h : LH) (_ : Oper) (s : Sp) : BT VR := ot (levF x a) fun len => ot (levF y a) fun cap => plift (fmake P h t len cap) s
abbrev PE := LAct → LH → Oper → Sp → BT VR
def pexec (a : LAct) (h : LH) (o : Oper) (s : Sp) : BT VR :=
  Op.rec (motive := fun _ => PE) (fun _ => pslow P orc) (fun _ => pslow P orc) (fun c x y a h _ s => ppick c x y a h s) (fun _ => pslow P orc) (fun _ _ => pslow P orc) (fun _ _ => pslow P orc) (fun _ _ _ => pslow P orc) (fun _ _ _ _ => pslow P orc) (fun _ _ => pslow P orc) (fun _ _ _ => pslow P orc) (fun _ => pslow P orc) (fun _ => pslow P orc) (fun _ => pslow P orc) (fun _ _ _ _ _ => pslow P orc)
    (fun _ _ _ => pslow P orc) (fun _ _ _ => pslow P orc) (fun _ _ => pslow P orc) (fun _ _ => pslow P orc) (fun _ _ _ => pslow P orc) (fun _ _ => pslow P orc) (fun _ _ => pslow P orc) (fun t x y => pmake P t x y) (fun _ _ _ _ _ => pslow P orc) (fun _ _ _ => pslow P orc) (fun _ _ _ => pslow P orc) (fun _ _ _ => pslow P orc) (fun _ _ _ => pslow P orc)
    (fun _ _ _ _ => pslow P orc) (fun _ _ _ _ => pslow P orc) (fun _ _ _ => pslow P orc) (fun _ _ _ _ => pslow P orc) (fun _ _ => pslow P orc) (fun _ _ => pslow P orc) (fun _ => pslow P orc) (fun _ _ _ _ => pslow P orc) (fun _ _ => pslow P orc) (fun c => pcall P orc exp pih c) (fun _ => pslow P orc) (fun _ => pslow P orc) (fun _ => pslow P orc) (fun _ _ => pslow P orc) (fun _ _ _ => pslow P orc) (fun _ _ => pslow P orc)
    o.op a h o s
def pops (all l : List Oper) : LAct → LH → Sp → BT ((LAct × LH) × Sp) :=
  List.rec (motive := fun _ => LAct → LH → Sp → BT ((LAct × LH) × Sp)) (fun a h s => .leaf ((a, h), s))
    (fun o _ rest a h s => tb (pwanted all a o.guard s) fun q => tb (bb q.1 (pexec P orc exp pih q.2.1 h o q.2.2) (.leaf ((undef, h), q.2.2))) fun p => ot (putF q.2.1 o.dst p.1.1) fun a' => rest a' p.1.2 p.2) l
def pend (a : LAct) (h : LH) (s : Sp) (e : LExit) : BT (Res × Sp) := .leaf (.code e a h, s)
def pcodeR (r : BT (Res × Sp)) (k : LExit → LAct → LH → Sp → BT (Res × Sp)) : BT (Res × Sp) := tb r fun x => Res.rec (motive := fun _ => BT (Res × Sp)) (fun e a h => k e a h x.2) (fun v h => .leaf (.val v h, x.2)) x.1
def pexitR (e : LExit) (x : BT (Res × Sp)) (y : Nat → BT (Res × Sp)) (z : BT (Res × Sp)) : BT (Res × Sp) := LExit.rec (motive := fun _ => BT (Res × Sp)) x y z e
abbrev PC := Option Nat → LAct → LH → Sp → BT (Res × Sp)
def pRegion (ops : Array Oper) (draw : Bool) : PC := fun _ a h s => tb (bb draw (plift (any ih ops a h) s) (pops P orc exp pih ops.toList ops.toList a h s)) fun p => pend p.1.1 p.1.2 p.2 .normal
def pSeq (x y : Code) : PC := fun ro a h s => pcodeR (pih (.code ro x a h) s) fun e a' h' s' => pexitR e (pih (.code ro y a' h') s') (fun i => pend a' h' s' (.exit i)) (pend a' h' s' .ret)
def pCond (x : Operand) (c d : Code) : PC := fun ro a h s => ot (levF x a) fun v => tb (pdec (otmp x) v a s) fun q => pih (.code ro (bb q.1 c d) q.2.1 h) q.2.2
def pBlock (i : Nat) (c : Code) : PC := fun ro a h s => pcodeR (pih (.code ro c a h) s) fun e a' h' s' => pexitR e (pend a' h' s' .normal) (fun j => bb (Nat.beq j i) (pend a' h' s' .normal) (pend a' h' s' (.exit j))) (pend a' h' s' .ret)
def pLoop (c : Code) : PC := fun ro a h s => pcodeR (pih (.code ro c a h) s) fun e a' h' s' => pexitR e (pih (.code ro (.loop c) a' h') s') (fun j => pend a' h' s' (.exit j)) (pend a' h' s' .ret)
def pcode (c : Code) : PC :=
  Code.rec (motive := fun _ => PC) (fun _ a h s => pend a h s .normal) (fun _ ops draw => pRegion P orc any exp pih ih ops draw) (fun x y _ _ => pSeq pih x y) (fun x c d _ _ => pCond pih x c d) (fun i c _ => pBlock pih i c) (fun c _ => pLoop pih c) (fun _ _ _ _ _ _ _ _ _ _ => .bad) (fun i _ a h s => pend a h s (.exit i)) (fun _ _ _ _ _ _ => .bad) (fun _ _ a h s => pend a h s .normal) (fun _ _ _ _ _ => .bad) (fun _ a h s => pend a h s .ret) (fun _ _ _ _ _ => .bad) c
def pcallFF (f : FuncId) (args : List Value) (h : LH) (s : Sp) : BT (Res × Sp) :=
  ot P.funcs[f]? fun fn => ot fn.body fun c => ot (enterF fn.ntmps args 0 .nil) fun t => tb (pih (.code none c ⟨t, fn.ntmps, []⟩ h) s) fun r => Res.rec (motive := fun _ => BT (Res × Sp))
    (fun e a' h' => LExit.rec (motive := fun _ => (Unit → BT (Res × Sp)) → BT (Res × Sp)) (fun k => k ()) (fun _ _ => .bad) (fun k => k ()) e (fun _ => ot (marksF h' a'.marks) fun h2 => ot (resultsF P a' h2 fn.results.toList) fun vs => plift (valsF vs h2) r.2)) (fun _ _ => .bad) r.1
def pstep (t : Task) (s : Sp) : BT (Res × Sp) :=
  Task.rec (motive := fun _ => BT (Res × Sp)) (fun ro c a h => pcode P orc any exp pih ih c ro a h s) (fun f args h => pcallFF P pih f args h s) (fun _ _ _ => .bad) t
end
def prun (P : Program) (orc : Orc) (any : Any) (exp : Exp) (n : Nat) : PRec := Nat.rec (motive := fun _ => PRec) (fun _ _ => .bad) (fun n pih t s => pstep P orc any exp pih (lrunF P orc any n) t s) n
end
end Go.Proofs.YtedfhallhpkkhaaGreatDoor.X
