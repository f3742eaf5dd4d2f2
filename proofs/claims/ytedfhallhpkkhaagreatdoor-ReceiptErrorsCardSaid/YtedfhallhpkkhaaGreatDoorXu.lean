/- The local run once more, by the recursors themselves: regions, code, calls, the whole run. Any program. -/
import Derived.Test.YtedfhallhpkkhaaGreatDoorXr
set_option linter.unusedVariables false
set_option linter.unusedSimpArgs false
namespace Go.Proofs.YtedfhallhpkkhaaGreatDoor.X
open Go
noncomputable section

abbrev Rec := Task → Option Res
abbrev Any := Rec → Array Oper → LAct → LH → Option (LAct × LH)

def asBoolF (v : Value) : Option Bool :=
  Value.rec (motive_1 := fun _ => Option Bool) (motive_2 := fun _ => PUnit) (motive_3 := fun _ => PUnit)
    (fun b => some b) (fun _ _ => none) (fun _ _ => none) (fun _ _ _ => none) (fun _ => none) (fun _ => none) (fun _ _ _ => none) (fun _ => none) (fun _ => none) (fun _ _ _ _ _ => none) none (fun _ _ _ => none) none (fun _ _ => none) (fun _ _ => none)
    (fun _ _ => ⟨⟩) ⟨⟩ (fun _ _ _ _ => ⟨⟩) v
def bxnor (x y : Bool) : Bool := bb x y (not y)
theorem bxnor_eq (x y : Bool) : bxnor x y = (x == y) := by cases x <;> cases y <;> rfl
def yieldedF (all : List Oper) (a : LAct) (j : Nat) : Option Bool := ob (nthF all j) fun o => ob o.dst fun t => ob (T.get a.tmps t) asBoolF
theorem yieldedF_eq (ops : Array Oper) (a : LAct) (j : Nat) : yieldedF ops.toList a j = lyielded ops a j := by
  unfold yieldedF lyielded
  rw [nthF_eq, Array.getElem?_toList]
  cases ops[j]? with
  | none => rfl
  | some o =>
    simp only [ob_some, Option.bind_some]
    cases o.dst with
    | none => rfl
    | some t =>
      simp only [ob_some]
      cases a.tmps.get t with
      | none => rfl
      | some v => cases v <;> rfl
def guardF (all : List Oper) (a : LAct) (g : Nat × Bool) : Bool := Option.rec (motive := fun _ => Bool) false (fun b => bxnor b g.2) (yieldedF all a g.1)
def wantedF (all : List Oper) (a : LAct) (g : Option (Nat × Bool)) : Bool := Option.rec (motive := fun _ => Bool) true (guardF all a) g
theorem wantedF_eq (ops : Array Oper) (a : LAct) (o : Oper) : wantedF ops.toList a o.guard = lwanted ops a o := by
  unfold lwanted
  cases o.guard with
  | none => rfl
  | some g =>
    obtain ⟨j, want⟩ := g
    show guardF ops.toList a (j, want) = (lyielded ops a j == some want)
    unfold guardF
    rw [yieldedF_eq]
    cases lyielded ops a j with
    | none => rfl
    | some b =>
      show bxnor b want = _
      cases b <;> cases want <;> rfl
def putF (a : LAct) (dst : Option Tmp) (v : Value) : Option LAct :=
  Option.rec (motive := fun _ => Option LAct) (some a) (fun d => LAct.rec (motive := fun _ => Option LAct) (fun t n m => bb (Nat.ble (Nat.succ d) n) (some ⟨t.set d (some v), n, m⟩) none) a) dst
theorem putF_eq (a : LAct) (dst : Option Tmp) (v : Value) : putF a dst v = a.put dst v := by
  obtain ⟨t, n, m⟩ := a
  cases dst with
  | none => rfl
  | some d =>
    show bb (Nat.ble (d + 1) n) _ _ = _
    rw [bb_ite, nat_ble]
    simp only [LAct.put]
    by_cases h : d < n
    · simp [h, Nat.succ_le_of_lt h]
    · have h2 : ¬ (d + 1 ≤ n) := fun q => h q
      rw [if_neg (by simpa using h2), if_neg h]
def opsF (P : Program) (orc : Orc) (ih : Rec) (all l : List Oper) : LAct → LH → Option (LAct × LH) :=
  List.rec (motive := fun _ => LAct → LH → Option (LAct × LH)) (fun a h => some (a, h))
    (fun o _ rest a h => ob (bb (wantedF all a o.guard) (lexecF P orc ih a h o) (some (undef, h))) (fun p => Prod.rec (motive := fun _ => Option (LAct × LH)) (fun v h' => ob (putF a o.dst v) fun a' => rest a' h') p)) l
theorem opsF_eq (P : Program) (orc : Orc) (ih : Rec) (ops : Array Oper) : ∀ (l : List Oper) (js : List Nat), js.map (ops[·]?) = l.map some → ∀ a h, opsF P orc ih ops.toList l a h = lops P orc ih ops js a h
  | [], [], _, a, h => rfl
  | [], _ :: _, hl, _, _ => by cases hl
  | _ :: _, [], hl, _, _ => by cases hl
  | o :: l, j :: js, hl, a, h => by
    simp only [List.map_cons, List.cons.injEq] at hl
    show ob (bb (wantedF ops.toList a o.guard) (lexecF P orc ih a h o) (some (undef, h))) _ = _
    simp only [lops, hl.1]
    rw [wantedF_eq, lexecF_eq, bb_ite]
    cases (if lwanted ops a o = true then lexec P orc ih a h o else some (undef, h)) with
    | none => rfl
    | some p =>
      obtain ⟨v, h'⟩ := p
      show ob (putF a o.dst v) _ = _
      rw [putF_eq]
      simp only
      cases a.put o.dst v with
      | none => rfl
      | some a' => exact opsF_eq P orc ih ops l js hl.2 a' h'
theorem range_map (ops : Array Oper) : (List.range ops.size).map (ops[·]?) = ops.toList.map some := by
  apply List.ext_getElem?
  intro i
  simp only [List.getElem?_map, List.getElem?_range, Array.getElem?_toList]
  by_cases h : i < ops.size
  · simp [List.getElem?_range h, h]
  · simp [h]

abbrev C := Program → Orc → Any → Rec → Option Nat → LAct → LH → Option Res
def codeR (r : Option Res) (k : LExit → LAct → LH → Option Res) : Option Res := ob r fun x => Res.rec (motive := fun _ => Option Res) k (fun v h => some (.val v h)) x
def exitR (e : LExit) (x : Option Res) (y : Nat → Option Res) (z : Option Res) : Option Res := LExit.rec (motive := fun _ => Option Res) x y z e
def endR (a : LAct) (h : LH) (e : LExit) : Option Res := some (.code e a h)
def cSkip : C := fun _ _ _ _ _ a h => endR a h .normal
def cRet : C := fun _ _ _ _ _ a h => endR a h .ret
def cExit (i : Nat) : C := fun _ _ _ _ _ a h => endR a h (.exit i)
def cNone : C := fun _ _ _ _ _ _ _ => none
def cRegion (ops : Array Oper) (draw : Bool) : C := fun P orc any ih _ a h => ob (bb draw (any ih ops a h) (opsF P orc ih ops.toList ops.toList a h)) fun p => Prod.rec (motive := fun _ => Option Res) (fun a h => endR a h .normal) p
def cSeq (x y : Code) : C := fun _ _ _ ih ro a h => codeR (ih (.code ro x a h)) fun e a' h' => exitR e (ih (.code ro y a' h')) (fun i => endR a' h' (.exit i)) (endR a' h' .ret)
def cCond (x : Operand) (c d : Code) : C := fun _ _ _ ih ro a h => ob (levF x a) fun v => ob (asBoolF v) fun b => ih (.code ro (bb b c d) a h)
def cBlock (i : Nat) (c : Code) : C := fun _ _ _ ih ro a h => codeR (ih (.code ro c a h)) fun e a' h' => exitR e (endR a' h' .normal) (fun j => bb (Nat.beq j i) (endR a' h' .normal) (endR a' h' (.exit j))) (endR a' h' .ret)
def cLoop (c : Code) : C := fun _ _ _ ih ro a h => codeR (ih (.code ro c a h)) fun e a' h' => exitR e (ih (.code ro (.loop c) a' h')) (fun j => endR a' h' (.exit j)) (endR a' h' .ret)
def cSlow (c : Code) : C := fun P orc any ih ro a h => lcode P orc ih any ro c a h
def lcodeF (c : Code) : C :=
  Code.rec (motive := fun _ => C) cSkip (fun _ ops draw => cRegion ops draw) (fun x y _ _ => cSeq x y) (fun x c d _ _ => cCond x c d) (fun i c _ => cBlock i c) (fun c _ => cLoop c) (fun f p x y _ _ => cSlow (.rangeFunc f p x y)) cExit (fun c _ => cSlow (.scope c)) (fun _ => cSkip) (fun l => cSlow (.goto l)) cRet (fun w => cSlow (.refuse w)) c
theorem lcodeF_eq (P : Program) (orc : Orc) (any : Any) (ih : Rec) (ro : Option Nat) (c : Code) (a : LAct) (h : LH) : lcodeF c P orc any ih ro a h = lcode P orc ih any ro c a h := by
  cases c <;> try rfl
  case region id ops draw =>
    show ob (bb draw (any ih ops a h) (opsF P orc ih ops.toList ops.toList a h)) _ = _
    rw [opsF_eq P orc ih ops _ _ (range_map ops), bb_ite]
    simp only [lcode]
    cases (if draw = true then any ih ops a h else lops P orc ih ops (List.range ops.size) a h) <;> rfl
  case seq x y =>
    show codeR (ih (.code ro x a h)) _ = _
    simp only [lcode]
    cases ih (.code ro x a h) with
    | none => rfl
    | some r => cases r with
      | code e a' h' => cases e <;> rfl
      | val v h' => rfl
  case cond x c d =>
    show ob (levF x a) _ = _
    rw [levF_eq]
    simp only [lcode]
    cases lev a x with
    | none => rfl
    | some v => cases v with
      | bool b => cases b <;> rfl
      | _ => rfl
  case block i c =>
    show codeR (ih (.code ro c a h)) _ = _
    simp only [lcode]
    cases ih (.code ro c a h) with
    | none => rfl
    | some r => cases r with
      | code e a' h' =>
        cases e with
        | exit j =>
          show bb (Nat.beq j i) _ _ = _
          rw [nat_beq, bb_ite]
          by_cases hj : j = i
          · simp [hj, endR]
          · simp [hj, endR]
        | _ => rfl
      | val v h' => rfl
  case loop c =>
    show codeR (ih (.code ro c a h)) _ = _
    simp only [lcode]
    cases ih (.code ro c a h) with
    | none => rfl
    | some r => cases r with
      | code e a' h' => cases e <;> rfl
      | val v h' => rfl

def enterF (n : Nat) (args : List Value) : Nat → T Value → Option (T Value) :=
  List.rec (motive := fun _ => Nat → T Value → Option (T Value)) (fun _ t => some t) (fun v _ ih i t => bb (Nat.ble (Nat.succ i) n) (ih (Nat.succ i) (t.set i (some v))) none) args
theorem enterF_eq (n : Nat) : ∀ (args : List Value) (i : Nat) (t : T Value), enterF n args i t = lenter n i args t
  | [], _, _ => rfl
  | v :: l, i, t => by
    show bb (Nat.ble (i + 1) n) (enterF n l (i + 1) (t.set i (some v))) none = _
    rw [enterF_eq n l, bb_ite, nat_ble]
    simp only [lenter]
    by_cases h : i < n
    · simp [h, Nat.succ_le_of_lt h]
    · have h2 : ¬ (i + 1 ≤ n) := by omega
      rw [if_neg (by simpa using h2), if_neg h]
def resultsF (P : Program) (a : LAct) (h : LH) (l : List ResultVar) : Option (List Value) :=
  List.rec (motive := fun _ => Option (List Value)) (some []) (fun x _ ih => ResultVar.rec (motive := fun _ => Option (List Value)) (fun t => ob ih fun vs => some ((Option.rec (motive := fun _ => Value) undef (fun v => v) (T.get a.tmps t)) :: vs))
    (fun t ty => ob (lloadF P h ty (Option.rec (motive := fun _ => Value) undef (fun v => v) (T.get a.tmps t))) fun v => ob ih fun vs => some (v :: vs)) x) l
theorem getD_rec (o : Option Value) : (Option.rec (motive := fun _ => Value) undef (fun v => v) o : Value) = o.getD undef := by cases o <;> rfl
theorem resultsF_eq (P : Program) (a : LAct) (h : LH) : ∀ l, resultsF P a h l = lresults P a h l
  | [] => rfl
  | .tmp t :: l => by
    show ob (resultsF P a h l) _ = _
    rw [resultsF_eq P a h l]
    simp only [lresults, getD_rec]
    cases lresults P a h l <;> rfl
  | .cell t ty :: l => by
    show ob (lloadF P h ty _) (fun v => ob (resultsF P a h l) fun vs => some (v :: vs)) = _
    rw [resultsF_eq P a h l, lloadF_eq, getD_rec]
    simp only [lresults]
    cases lload P h ty ((a.tmps.get t).getD undef) with
    | none => rfl
    | some v => cases lresults P a h l <;> rfl
def marksF (h : LH) (l : List Nat) : Option LH := List.rec (motive := fun _ => Option LH) (some h) (fun _ _ _ => lmarks h l) l
theorem marksF_eq (h : LH) (l : List Nat) : marksF h l = lmarks h l := by cases l <;> rfl
def valsF (vs : List Value) (h : LH) : Option Res := List.rec (motive := fun _ => Option Res) (some (.val (.tuple vs.toArray) h)) (fun v l _ => List.rec (motive := fun _ => Option Res) (some (.val v h)) (fun _ _ _ => some (.val (.tuple vs.toArray) h)) l) vs
def lcallFF (P : Program) (ih : Rec) (f : FuncId) (args : List Value) (h : LH) : Option Res :=
  ob P.funcs[f]? fun fn => ob fn.body fun c => ob (enterF fn.ntmps args 0 .nil) fun t => ob (ih (.code none c ⟨t, fn.ntmps, []⟩ h)) fun r => Res.rec (motive := fun _ => Option Res)
    (fun e a' h' => LExit.rec (motive := fun _ => (Unit → Option Res) → Option Res) (fun k => k ()) (fun _ _ => none) (fun k => k ()) e (fun _ => ob (marksF h' a'.marks) fun h2 => ob (resultsF P a' h2 fn.results.toList) fun vs => valsF vs h2)) (fun _ _ => none) r
theorem lcallFF_eq (P : Program) (ih : Rec) (f : FuncId) (args : List Value) (h : LH) : lcallFF P ih f args h = lcallF P ih f args h := by
  unfold lcallFF lcallF
  cases P.funcs[f]? with
  | none => rfl
  | some fn =>
    simp only [ob_some]
    cases fn.body with
    | none => rfl
    | some c =>
      simp only [ob_some]
      rw [enterF_eq]
      cases lenter fn.ntmps 0 args .nil with
      | none => rfl
      | some t =>
        simp only [ob_some]
        cases ih (.code none c ⟨t, fn.ntmps, []⟩ h) with
        | none => rfl
        | some r => cases r with
          | val v h' => rfl
          | code e a' h' =>
            have hk : (ob (marksF h' a'.marks) fun h2 => ob (resultsF P a' h2 fn.results.toList) fun vs => valsF vs h2) = (match lmarks h' a'.marks with
              | some h'' =>
                match lresults P a' h'' fn.results.toList with
                | some [v] => some (.val v h'')
                | some vs => some (.val (.tuple vs.toArray) h'')
                | none => none
              | none => none) := by
              rw [marksF_eq]
              cases lmarks h' a'.marks with
              | none => rfl
              | some h2 =>
                simp only [ob_some]
                rw [resultsF_eq]
                cases lresults P a' h2 fn.results.toList with
                | none => rfl
                | some vs => cases vs with
                  | nil => rfl
                  | cons v l => cases l <;> rfl
            cases e with
            | exit _ => rfl
            | normal => exact hk
            | ret => exact hk
def lstepF (P : Program) (orc : Orc) (any : Any) (ih : Rec) (t : Task) : Option Res :=
  Task.rec (motive := fun _ => Option Res) (fun ro c a h => lcodeF c P orc any ih ro a h) (fun f args h => lcallFF P ih f args h) (fun l args h => lround ih l args h) t
theorem lstepF_eq (P : Program) (orc : Orc) (any : Any) (ih : Rec) (t : Task) : lstepF P orc any ih t = lstep P orc ih any t := by
  cases t with
  | code ro c a h => exact lcodeF_eq P orc any ih ro c a h
  | call f args h => exact lcallFF_eq P ih f args h
  | round l args h => rfl
def lrunF (P : Program) (orc : Orc) (any : Any) (n : Nat) : Rec := Nat.rec (motive := fun _ => Rec) (fun _ => none) (fun _ ih t => lstepF P orc any ih t) n
theorem lrunF_eq (P : Program) (orc : Orc) (any : Any) : ∀ n, lrunF P orc any n = lrun P orc any n
  | 0 => rfl
  | n + 1 => by
    funext t
    show lstepF P orc any (lrunF P orc any n) t = lstep P orc (lrun P orc any n) any t
    rw [lrunF_eq P orc any n, lstepF_eq]
end
end Go.Proofs.YtedfhallhpkkhaaGreatDoor.X
