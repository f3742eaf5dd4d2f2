/- Regions that draw their order, run locally once: what is looked at, what must come before, and the run itself. Any program. -/
import Derived.Test.YtedfhallhpkkhaaGreatDoorXu
set_option linter.unusedVariables false
set_option linter.unusedSimpArgs false
namespace Go.Proofs.YtedfhallhpkkhaaGreatDoor.X
open Go
noncomputable section

/-! ### The order (from the region's text alone) -/
def looksOf (ops : Array Oper) (i : Nat) : List Tmp := match ops[i]? with | some o => o.looksAt ops | none => []
def dstOf (ops : Array Oper) (i : Nat) : Option Tmp := (ops[i]?).bind (·.dst)
/-- Operations that may change the heap, or enter code. -/
def isEff : Op → Bool
  | .move _ | .assign _ | .pick .. | .alloc _ | .build .. | .load .. | .nilCheck _ | .binOp .. | .unOp .. | .convert .. | .makeInterface .. | .makeFunc .. | .makeMap .. | .makeSlice .. | .slice .. | .fieldAddr .. | .field .. | .indexAddr .. | .index .. | .lookup .. | .typeAssert .. | .extract .. => false
  | .call c => match c.callee with | .builtin .len | .builtin .max | .builtin .min => false | _ => true
  | _ => true
def isRead : Op → Bool
  | .load .. | .lookup .. | .convert .. | .slice .. => true
  | .call c => match c.callee with | .builtin .len => true | _ => false
  | _ => false
def isConv : Op → Bool
  | .convert .. => true
  | _ => false
def isZero : Op → Bool
  | .alloc _ | .makeMap .. | .makeSlice .. => true
  | _ => false
def maskOf (M : List Nat) (after : List Edge) : Nat := List.rec (motive := fun _ => Nat) 0 (fun e _ s => bb (Region.binds .any e) (Nat.lor (Nat.lor s (Nat.pow 2 e.on)) (M.getD e.on 0)) s) after
def masks (ops : Array Oper) : List Nat := (Region.before ops).toList
abbrev Segs := List (List Nat × Nat)
def cut (M : List Nat) : List Nat → List Nat → Segs × List Nat
  | rem, [] => ([], rem)
  | rem, e :: es =>
    let ns := rem.filter fun i => Nat.testBit (M.getD e 0) i
    let r := cut M (rem.filter fun i => !Nat.testBit (M.getD e 0) i) es
    ((ns, e) :: r.1, r.2)
def effAt (ops : Array Oper) (i : Nat) : Bool := match ops[i]? with | some o => isEff o.op | none => true
def planOf (ops : Array Oper) : Segs × List Nat := cut (masks ops) ((List.range ops.size).filter fun i => !effAt ops i) ((List.range ops.size).filter fun i => effAt ops i)
def flat (s : Segs) (last : List Nat) : List Nat := s.flatMap (fun x => x.1 ++ [x.2]) ++ last
/-- Who writes a slot that is looked at is waited for, or waits. -/
def ord (ops : Array Oper) (M : List Nat) : List Nat → List Nat → Bool
  | _, [] => true
  | pre, i :: l => ((looksOf ops i).all fun t => (pre.all fun j => dstOf ops j != some t || Nat.testBit (M.getD i 0) j) && (l.all fun j => dstOf ops j != some t || Nat.testBit (M.getD j 0) i)) && ord ops M (i :: pre) l
def dist (ops : Array Oper) : List Nat → Bool
  | [] => true
  | i :: l => (l.all fun j => j != i && (dstOf ops i == none || dstOf ops j != dstOf ops i)) && dist ops l
def segOk (M : List Nat) : Segs → Bool
  | [] => true
  | s :: rest => (s.1.all fun i => Nat.testBit (M.getD s.2 0) i) && (rest.all fun x => Nat.testBit (M.getD x.2 0) s.2) && segOk M rest
def maskOk (M : List Nat) (ops : Array Oper) (i : Nat) : Bool :=
  match ops[i]? with
  | some o => M.getD i 0 == maskOf M o.after.toList && o.after.toList.all fun e => !Region.binds .any e || decide (e.on < i)
  | none => false
def planOk (ops : Array Oper) (s : Segs) (last : List Nat) : Bool :=
  ((List.range ops.size).all fun i => (flat s last).contains i && maskOk (masks ops) ops i) && ord ops (masks ops) [] (flat s last) && dist ops (flat s last) && segOk (masks ops) s &&
  decide ((flat s last).length ≤ ops.size) && (flat s last).all fun i => decide (i < ops.size)

/-! ### Numbers in a value -/
mutual
def idsOk (f : Nat → Bool) : Value → Bool
  | .pointer (some a) => f a.block
  | .slice (some a) _ _ => f a.block
  | .map (some r) => f r
  | .func fn fs cs => (match fn with | .yield l => f l | _ => true) && (idsOkA f fs && idsOkA f cs)
  | .iface _ v => idsOk f v
  | .agg cs => idsOkA f cs
  | .tuple vs => idsOkA f vs
  | _ => true
def idsOkA (f : Nat → Bool) : Array Value → Bool
  | ⟨l⟩ => idsOkL f l
def idsOkL (f : Nat → Bool) : List Value → Bool
  | [] => true
  | v :: l => idsOk f v && idsOkL f l
end
def addrEq (a b : Addr) : Bool := Nat.beq a.block b.block && Nat.beq a.off b.off && a.spot.isNone && b.spot.isNone
mutual
def veq : Value → Value → Bool
  | .bool a, .bool b => a == b
  | .int j a, .int k b => kindF j k && intEqF a b
  | .string a, .string b => a.data.toList == b.data.toList
  | .pointer (some a), .pointer (some b) => addrEq a b
  | .pointer none, .pointer none => true
  | .slice (some a) l k, .slice (some b) m n => addrEq a b && (Nat.beq l m && Nat.beq k n)
  | .slice none l k, .slice none m n => Nat.beq l m && Nat.beq k n
  | .map (some a), .map (some b) => Nat.beq a b
  | .map none, .map none => true
  | .nilFunc, .nilFunc => true
  | .nilIface, .nilIface => true
  | .agg ⟨a⟩, .agg ⟨b⟩ => veqL a b
  | .tuple ⟨a⟩, .tuple ⟨b⟩ => veqL a b
  | _, _ => false
def veqL : List Value → List Value → Bool
  | [], [] => true
  | a :: l, b :: m => veq a b && veqL l m
  | _, _ => false
end

/-! ### The run -/
def resT (t : T Value) (ts : List Tmp) : T Value := List.rec (motive := fun _ => T Value) .nil (fun x _ ih => Option.rec (motive := fun _ => T Value) ih (fun v => T.set ih x (some v)) (T.get t x)) ts
def restr (la : LAct) (ts : List Tmp) : LAct := ⟨resT la.tmps ts, la.n, []⟩
def slotsOk (f : Value → Bool) (la : LAct) (ts : List Tmp) : Bool := ts.all fun t => match la.tmps.get t with | some v => f v | none => true
/-- A number that is reserved and not yet given is not there. -/
def avail (base N : Nat) (h : LH) (x : Nat) : Bool := bb (Nat.ble base x) (bb (Nat.ble (Nat.succ x) (base + N)) (Option.rec (motive := fun _ => Bool) false (fun _ => true) (LH.get h x)) true) true

inductive NK where
  | skip
  | pure
  | read
  | zero (x : LO)
structure NRec where
  i : Nat
  la : LAct
  v : Value
  k : NK
structure DSeg where
  ns : List NRec
  pre : LH
  e : Nat
  la : LAct
  v : Value
  post : LH
def BIG : Nat := 1000000000000000000
def isNilT (t : T LO) : Bool := T.rec (motive := fun _ => Bool) true (fun _ _ _ _ _ => false) t

section
variable (P : Program) (orc : Orc) (ih : Task → Option Res) (ops : Array Oper) (base : Nat)
def tryPure (lr : LAct) (o : Oper) : Option Value :=
  match lop P (lev lr) ⟨.nil, BIG⟩ o with
  | some (v, h1) => if isNilT h1.t = true ∧ h1.next = BIG then some v else none
  | none => none
def tryZero (lr : LAct) (i : Nat) (o : Oper) : Option (Value × LO) :=
  if slotsOk plain lr (looksOf ops i) = true then
    match lop P (lev lr) ⟨.nil, base + i⟩ o with
    | some (v, h1) => if h1.next = base + i + 1 then match h1.get (base + i) with | some x => some (v, x) | none => none else none
    | none => none
  else none
def nrec (H : LH) (lr : LAct) (i : Nat) (o : Oper) : Option NRec :=
  if isEff o.op = true then none else
  if lwanted ops lr o = true then
    if isRead o.op = true then
      match (if isConv o.op = true then tryPure P lr o else none) with
      | some v => some ⟨i, lr, v, .pure⟩
      | none => match (if isConv o.op = true then tryZero P ops base lr i o else none) with
        | some p => some ⟨i, lr, p.1, .zero p.2⟩
        | none => (lop P (lev lr) H o).map fun p => ⟨i, lr, p.1, .read⟩
    else if isZero o.op = true then (tryZero P ops base lr i o).map fun p => ⟨i, lr, p.1, .zero p.2⟩
    else (tryPure P lr o).map fun v => ⟨i, lr, v, .pure⟩
  else some ⟨i, lr, undef, .skip⟩
def fwdN (H : LH) : List Nat → LAct → Option (List NRec × LAct)
  | [], la => some ([], la)
  | i :: l, la =>
    match ops[i]? with
    | some o =>
      match nrec P ops base H (restr la (looksOf ops i)) i o with
      | some r =>
        match la.put o.dst r.v with
        | some la1 =>
          match fwdN H l la1 with
          | some (rs, la2) => some (r :: rs, la2)
          | none => none
        | none => none
      | none => none
    | none => none
def absorb (H : LH) : List NRec → LH
  | [] => H
  | r :: l => match r.k with
    | .zero x => absorb (H.put (base + r.i) x) l
    | _ => absorb H l
def fwd : Segs → List Nat → LAct → LH → Option (List DSeg × List NRec × LAct × LH)
  | [], last, la, H =>
    match fwdN P ops base H last la with
    | some (rs, la1) => some ([], rs, la1, absorb base H rs)
    | none => none
  | s :: rest, last, la, H =>
    match fwdN P ops base H s.1 la with
    | some (rs, la1) =>
      match ops[s.2]? with
      | some o =>
        let pre := absorb base H rs
        let lr := restr la1 (looksOf ops s.2)
        if slotsOk (idsOk (avail base ops.size pre)) lr (looksOf ops s.2) = true ∧ isSelect o.op = false then
          match (if lwanted ops lr o = true then lexec P orc ih lr pre o else some (undef, pre)) with
          | some (v, post) =>
            match la1.put o.dst v with
            | some la2 =>
              match fwd rest last la2 post with
              | some (ds, lr', laF, hF) => some (⟨rs, pre, s.2, lr, v, post⟩ :: ds, lr', laF, hF)
              | none => none
            | none => none
          | none => none
        else none
      | none => none
    | none => none
def readAt (H : LH) (es : List Nat) (r : NRec) : Bool :=
  match r.k with
  | .read => es.any (fun e => Nat.testBit ((masks ops).getD r.i 0) e) ||
    (slotsOk (idsOk (avail base ops.size H)) r.la (looksOf ops r.i) &&
      match ops[r.i]? with
      | some o => match lop P (lev r.la) H o with
        | some (v, h) => Nat.beq h.next H.next && veq v r.v
        | none => false
      | none => false)
  | _ => true
def readsAt (last : List NRec) : List DSeg → LH → Bool
  | [], H => Nat.ble H.next BIG && last.all (readAt P ops base H [])
  | s :: rest, H => Nat.ble H.next BIG && (s.ns ++ rest.flatMap (·.ns) ++ last).all (readAt P ops base H (s.e :: rest.map (·.e))) && readsAt last rest s.post
end
/-- A region that draws. -/
def anyRun (P : Program) (orc : Orc) : (Task → Option Res) → Array Oper → LAct → LH → Option (LAct × LH) := fun ih ops la h =>
  if P.follows .mixedOrders = true then
  if planOk ops (planOf ops).1 (planOf ops).2 = true then
    match fwd P orc ih ops h.next (planOf ops).1 (planOf ops).2 la ⟨h.t, h.next + ops.size⟩ with
    | some (ds, rs, laF, hF) => if readsAt P ops h.next rs ds ⟨h.t, h.next + ops.size⟩ = true then some (⟨laF.tmps, laF.n, la.marks⟩, hF) else none
    | none => none
  else none
  else none
end
end Go.Proofs.YtedfhallhpkkhaaGreatDoor.X
