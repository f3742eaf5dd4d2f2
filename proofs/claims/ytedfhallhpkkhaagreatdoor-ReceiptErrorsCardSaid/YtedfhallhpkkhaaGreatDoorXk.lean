/- The local run of a function's code: one function on what is to be done, by a bound on the depth. Any program. -/
import Derived.Test.YtedfhallhpkkhaaGreatDoorXj
import Derived.RangeFuncLeaves
set_option linter.unusedVariables false
set_option linter.unusedSimpArgs false
namespace Go.Proofs.YtedfhallhpkkhaaGreatDoor.X
open Go
noncomputable section

/-- The temporaries of an activation, and the blocks of its ranges over functions. -/
structure LAct where
  tmps : T Value
  n : Nat
  marks : List Nat

inductive LExit where
  | normal
  | exit (id : Nat)
  | ret

inductive Task where
  | code (ro : Option Nat) (c : Code) (a : LAct) (h : LH)
  | call (f : FuncId) (args : List Value) (h : LH)
  | round (l : Nat) (args : List Value) (h : LH)
inductive Res where
  | code (e : LExit) (a : LAct) (h : LH)
  | val (v : Value) (h : LH)

/-- What is known of a function from elsewhere: on plain arguments, a plain result. -/
abbrev Orc := FuncId → Option (List Value → Option Value)

def lev (a : LAct) : Operand → Option Value
  | .tmp t => some ((a.tmps.get t).getD undef)
  | .const v => if plain v = true then some v else none
  | .global g => if g = 0 then some (.pointer (some ⟨0, 0, none⟩)) else none
  | .func f => some (.func (.func f) #[] #[])
def LAct.put (a : LAct) (dst : Option Tmp) (v : Value) : Option LAct :=
  match a with
  | ⟨t, n, m⟩ => match dst with
    | none => some ⟨t, n, m⟩
    | some d => if d < n then some ⟨t.set d (some v), n, m⟩ else none

def lyielded (ops : Array Oper) (a : LAct) (j : Nat) : Option Bool :=
  match (ops[j]?).bind (·.dst) with
  | some t => match a.tmps.get t with
    | some (.bool b) => some b
    | _ => none
  | none => none
def lwanted (ops : Array Oper) (a : LAct) (o : Oper) : Bool :=
  match o.guard with
  | none => true
  | some (j, want) => lyielded ops a j == some want

def isPlainFn (P : Program) (f : FuncId) : Bool :=
  match P.funcs[f]? with
  | some fn => !(fn.name == "runtime.NumGoroutine") && fn.body.isSome
  | none => false
def isDefer : Op → Bool
  | .defer _ => true
  | _ => false

section
variable (P : Program) (orc : Orc) (ih : Task → Option Res)

def lfun (h : LH) (f : FuncId) (args : List Value) : Option (Value × LH) :=
  match orc f with
  | some g => if isPlainFn P f = true ∧ plainL args = true then match g args with
      | some v => if plain v = true then some (v, h) else none
      | none => none
    else none
  | none =>
    if isPlainFn P f = true then
      match ih (.call f args h) with
      | some (.val v h') => some (v, h')
      | _ => none
    else if plainL args = true then
      match runP P (callFunc f args.toArray) with
      | some (.value v) => if plain v = true then some (v, h) else none
      | _ => none
    else none
def lcallV (h : LH) (fv : Value) (args : List Value) : Option (Value × LH) :=
  match fv with
  | .func (.func f) fs cs => lfun P orc ih h f (fs.toList ++ args ++ cs.toList)
  | .func (.yield l) fs _ => match ih (.round l (fs.toList ++ args) h) with
    | some (.val v h') => some (v, h')
    | _ => none
  | _ => none
/-- One operation, or a call. -/
def lexec (a : LAct) (h : LH) (o : Oper) : Option (Value × LH) :=
  if isDefer o.op = true then none else
  match o.op with
  | .call ⟨.value fx, args, _⟩ =>
    match lev a fx, evals (lev a) args.toList with
    | some fv, some vs => lcallV P orc ih h fv vs
    | _, _ => none
  | _ => lop P (lev a) h o
def lops (ops : Array Oper) : List Nat → LAct → LH → Option (LAct × LH)
  | [], a, h => some (a, h)
  | i :: l, a, h =>
    match ops[i]? with
    | some o =>
      match (if lwanted ops a o = true then lexec P orc ih a h o else some (undef, h)) with
      | some (v, h') =>
        match a.put o.dst v with
        | some a' => lops ops l a' h'
        | none => none
      | none => none
    | none => none

def lresults (a : LAct) (h : LH) : List ResultVar → Option (List Value)
  | [] => some []
  | .tmp t :: l => match lresults a h l with
    | some vs => some ((a.tmps.get t).getD undef :: vs)
    | none => none
  | .cell t ty :: l => match lload P h ty ((a.tmps.get t).getD undef), lresults a h l with
    | some v, some vs => some (v :: vs)
    | _, _ => none
def lmarks (h : LH) : List Nat → Option LH
  | [] => some h
  | i :: l => match h.get i with
    | some (.obj (.deferred (some []))) => lmarks (h.put i (.obj (.deferred none))) l
    | _ => none
def lenter (n : Nat) : Nat → List Value → T Value → Option (T Value)
  | _, [], t => some t
  | i, v :: l, t => if i < n then lenter n (i + 1) l (t.set i (some v)) else none
def loopAt (h : LH) (i : Nat) : Option LLoop :=
  match h.get i with
  | some (.loop l) => some l
  | _ => none
def lassign : T Value → Nat → List Tmp → List Value → Option (T Value)
  | t, _, [], [] => some t
  | t, n, d :: ds, v :: vs => if d < n then lassign (t.set d (some v)) n ds vs else none
  | _, _, _, _ => none

variable (any : (Task → Option Res) → Array Oper → LAct → LH → Option (LAct × LH))
def lcode (ro : Option Nat) (c : Code) (a : LAct) (h : LH) : Option Res :=
  match c with
  | .skip | .label _ => some (.code .normal a h)
  | .ret => some (.code .ret a h)
  | .exit id => some (.code (.exit id) a h)
  | .region _ ops draw =>
    match (if draw = true then any ih ops a h else lops P orc ih ops (List.range ops.size) a h) with
    | some (a', h') => some (.code .normal a' h')
    | none => none
  | .seq x y =>
    match ih (.code ro x a h) with
    | some (.code .normal a' h') => ih (.code ro y a' h')
    | r => r
  | .cond x c d =>
    match lev a x with
    | some (.bool b) => ih (.code ro (if b = true then c else d) a h)
    | _ => none
  | .block id c =>
    match ih (.code ro c a h) with
    | some (.code (.exit j) a' h') => if j = id then some (.code .normal a' h') else some (.code (.exit j) a' h')
    | r => r
  | .loop c =>
    match ih (.code ro c a h) with
    | some (.code .normal a' h') => ih (.code ro (.loop c) a' h')
    | r => r
  | .rangeFunc g ps assign body =>
    match lev a g with
    | some (.func (.func f) fs cs) =>
      match (match ro with
        | none => some (h.add (.obj (.deferred (some []))), h.next, [h.next])
        | some l => match loopAt h l with
          | some r => some (h, r.defers, [])
          | none => none) with
      | some (h1, d, mark) =>
        let h2 := h1.add (.loop { state := .ready, pending := none, tmps := a.tmps, n := a.n, params := ps, assign, body, defers := d })
        if isPlainFn P f = true then
        match ih (.call f (fs.toList ++ [.func (.yield h1.next) #[] #[]] ++ cs.toList) h2) with
        | some (.val _ h3) =>
          match loopAt h3 h1.next with
          | some r =>
            if r.state = .busy then none else
            let h4 := h3.put h1.next (.loop { r with state := .exhausted })
            let a' : LAct := match a with | ⟨t, n, m⟩ => ⟨t, n, mark ++ m⟩
            match r.pending with
            | none => some (.code .normal a' h4)
            | some .ret => some (.code .ret a' h4)
            | some (.exit id) => some (.code (.exit id) a' h4)
            | _ => none
          | none => none
        | _ => none
        else none
      | none => none
    | _ => none
  | _ => none
def lround (l : Nat) (args : List Value) (h : LH) : Option Res :=
  match loopAt h l with
  | some r =>
    match lassign r.tmps r.n r.params.toList args with
    | some t =>
      match ih (.code (some l) r.assign { tmps := t, n := r.n, marks := [] } h) with
      | some (.code .normal a1 h1) =>
        match loopAt h1 l with
        | some r1 =>
          match r1.state with
          | .ready =>
            match ih (.code (some l) r.body a1 (h1.put l (.loop { r1 with state := .busy }))) with
            | some (.code e _ h2) =>
              match loopAt h2 l with
              | some r2 =>
                match e with
                | .normal => some (.val (.bool true) (h2.put l (.loop { r2 with state := .ready, pending := none })))
                | .ret => some (.val (.bool false) (h2.put l (.loop { r2 with state := .done, pending := some .ret })))
                | .exit id => some (.val (.bool false) (h2.put l (.loop { r2 with state := .done, pending := some (.exit id) })))
              | none => none
            | _ => none
          | _ => none
        | none => none
      | _ => none
    | none => none
  | none => none
def lcallF (f : FuncId) (args : List Value) (h : LH) : Option Res :=
  match P.funcs[f]? with
  | some fn =>
    match fn.body with
    | some c =>
      match lenter fn.ntmps 0 args .nil with
      | some t =>
        match ih (.code none c { tmps := t, n := fn.ntmps, marks := [] } h) with
        | some (.code e a' h') =>
          match e with
          | .exit _ => none
          | _ =>
            match lmarks h' a'.marks with
            | some h'' =>
              match lresults P a' h'' fn.results.toList with
              | some [v] => some (.val v h'')
              | some vs => some (.val (.tuple vs.toArray) h'')
              | none => none
            | none => none
        | _ => none
      | none => none
    | none => none
  | none => none
def lstep (t : Task) : Option Res :=
  match t with
  | .code ro c a h => lcode P orc ih any ro c a h
  | .call f args h => lcallF P ih f args h
  | .round l args h => lround ih l args h
end

def lrun (P : Program) (orc : Orc) (any : (Task → Option Res) → Array Oper → LAct → LH → Option (LAct × LH)) (n : Nat) : Task → Option Res :=
  Nat.rec (fun _ => none) (fun _ ih t => lstep P orc ih any t) n
end
end Go.Proofs.YtedfhallhpkkhaaGreatDoor.X
