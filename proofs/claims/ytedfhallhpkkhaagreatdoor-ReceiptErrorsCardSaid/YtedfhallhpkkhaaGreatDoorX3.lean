/- Regions that draw, by the recursors themselves: equal to the first form. Any program. -/
import Derived.Test.YtedfhallhpkkhaaGreatDoorXo
set_option linter.unusedVariables false
set_option linter.unusedSimpArgs false
namespace Go.Proofs.YtedfhallhpkkhaaGreatDoor.X
open Go
noncomputable section

def lopF (P : Program) (lr : LAct) (h : LH) (o : Oper) : Option (Value × LH) := lexecF P (fun _ => none) (fun _ => none) lr h o
theorem lopF_eq {P : Program} {lr : LAct} {h : LH} {o : Oper} (he : isEff o.op = false) : lopF P lr h o = lop P (lev lr) h o := by
  unfold lopF
  rw [lexecF_eq]
  unfold lexec
  have hd : isDefer o.op = false := by cases hop : o.op <;> rw [hop] at he <;> first | rfl | cases he
  rw [hd]
  simp only [Bool.false_eq_true, if_false]
  split
  · rename_i hop
    rw [hop] at he
    simp [isEff] at he
  · rfl
def tryPureF (P : Program) (lr : LAct) (o : Oper) : Option Value :=
  ob (lopF P lr ⟨.nil, BIG⟩ o) fun p => Prod.rec (motive := fun _ => Option Value) (fun v h1 => LH.rec (motive := fun _ => Option Value) (fun t n => bb (isNilT t) (bb (Nat.beq n BIG) (some v) none) none) h1) p
theorem tryPureF_eq {P : Program} {lr : LAct} {o : Oper} (he : isEff o.op = false) : tryPureF P lr o = tryPure P lr o := by
  unfold tryPureF tryPure
  rw [lopF_eq he]
  cases lop P (lev lr) ⟨.nil, BIG⟩ o with
  | none => rfl
  | some p =>
    obtain ⟨v, t, n⟩ := p
    show bb (isNilT t) (bb (Nat.beq n BIG) (some v) none) none = _
    simp only [bb_ite, nat_beq]
    by_cases h1 : isNilT t = true
    · by_cases h2 : n = BIG
      · simp [h1, h2]
      · simp [h1, h2]
    · simp [h1]
section
variable (P : Program) (orc : Orc) (ih : Task → Option Res) (ops : Array Oper) (base : Nat)
def nrecF (H : LH) (lr : LAct) (i : Nat) (o : Oper) : Option NRec :=
  bb (isEff o.op) none (bb (wantedF ops.toList lr o.guard)
    (bb (isRead o.op) (bb (isConv o.op) (nrec P ops base H lr i o) (ob (lopF P lr H o) fun p => Prod.rec (motive := fun _ => Option NRec) (fun v _ => some ⟨i, lr, v, .read⟩) p))
      (bb (isZero o.op) (nrec P ops base H lr i o) (ob (tryPureF P lr o) fun v => some ⟨i, lr, v, .pure⟩)))
    (some ⟨i, lr, undef, .skip⟩))
theorem nrecF_eq (H : LH) (lr : LAct) (i : Nat) (o : Oper) : nrecF P ops base H lr i o = nrec P ops base H lr i o := by
  unfold nrecF
  rw [wantedF_eq]
  simp only [bb_ite]
  by_cases he : isEff o.op = true
  · simp [nrec, he]
  · have he' : isEff o.op = false := by simpa using he
    rw [if_neg he, lopF_eq he', tryPureF_eq he']
    by_cases hw : lwanted ops lr o = true
    · rw [if_pos hw]
      by_cases hr : isRead o.op = true
      · rw [if_pos hr]
        by_cases hc : isConv o.op = true
        · rw [if_pos hc]
        · rw [if_neg hc]
          unfold nrec
          rw [if_neg he, if_pos hw, if_pos hr]
          simp only [if_neg hc]
          cases lop P (lev lr) H o <;> rfl
      · rw [if_neg hr]
        by_cases hz : isZero o.op = true
        · rw [if_pos hz]
        · rw [if_neg hz]
          unfold nrec
          rw [if_neg he, if_pos hw, if_neg hr, if_neg hz]
          cases tryPure P lr o <;> rfl
    · rw [if_neg hw]
      unfold nrec
      rw [if_neg he, if_neg hw]
def fwdNF (H : LH) (l : List Nat) : LAct → Option (List NRec × LAct) :=
  List.rec (motive := fun _ => LAct → Option (List NRec × LAct)) (fun la => some ([], la)) (fun i _ rest la => ob ops[i]? fun o => ob (nrecF P ops base H (restr la (looksOf ops i)) i o) fun r => ob (putF la o.dst r.v) fun la1 => ob (rest la1) fun p =>
    Prod.rec (motive := fun _ => Option (List NRec × LAct)) (fun rs la2 => some (r :: rs, la2)) p) l
theorem fwdNF_eq (H : LH) : ∀ (l : List Nat) (la : LAct), fwdNF P ops base H l la = fwdN P ops base H l la
  | [], _ => rfl
  | i :: l, la => by
    show (ob ops[i]? fun o => ob (nrecF P ops base H (restr la (looksOf ops i)) i o) fun r => ob (putF la o.dst r.v) fun la1 => ob (fwdNF P ops base H l la1) fun p =>
      Prod.rec (motive := fun _ => Option (List NRec × LAct)) (fun rs la2 => some (r :: rs, la2)) p) = _
    simp only [fwdN]
    cases ops[i]? with
    | none => rfl
    | some o =>
      simp only [ob_some]
      rw [nrecF_eq]
      cases nrec P ops base H (restr la (looksOf ops i)) i o with
      | none => rfl
      | some r =>
        simp only [ob_some]
        rw [putF_eq]
        cases la.put o.dst r.v with
        | none => rfl
        | some la1 =>
          simp only [ob_some]
          rw [fwdNF_eq H l la1]
          cases fwdN P ops base H l la1 with
          | none => rfl
          | some p => rfl
def absorbF (l : List NRec) : LH → LH :=
  List.rec (motive := fun _ => LH → LH) (fun H => H) (fun r _ rest H => NRec.rec (motive := fun _ => LH) (fun i _ _ k => NK.rec (motive := fun _ => LH) (rest H) (rest H) (rest H) (fun x => rest (H.put (base + i) x)) k) r) l
theorem absorbF_eq : ∀ (l : List NRec) (H : LH), absorbF base l H = absorb base H l
  | [], _ => rfl
  | ⟨i, la, v, k⟩ :: l, H => by
    cases k with
    | zero x =>
      show absorbF base l (H.put (base + i) x) = _
      rw [absorbF_eq l]; rfl
    | _ => show absorbF base l H = _; rw [absorbF_eq l]; rfl
mutual
theorem idsOk_plain (f : Nat → Bool) : ∀ v : Value, plain v = true → idsOk f v = true
  | .pointer (some _), h => by simp [plain] at h
  | .slice (some _) _ _, h => by simp [plain] at h
  | .map (some _), h => by simp [plain] at h
  | .func fn fs cs, h => by
    simp only [plain, Bool.and_eq_true] at h
    simp only [idsOk, idsOkA_plain f fs h.2.1, idsOkA_plain f cs h.2.2, Bool.and_self, Bool.and_true]
    cases fn <;> first | rfl | (simp [plainFn] at h)
  | .iface _ v, h => by simp only [plain] at h; simp only [idsOk]; exact idsOk_plain f v h
  | .agg cs, h => by simp only [plain] at h; simp only [idsOk]; exact idsOkA_plain f cs h
  | .tuple cs, h => by simp only [plain] at h; simp only [idsOk]; exact idsOkA_plain f cs h
  | .pointer none, _ => by simp [idsOk]
  | .slice none _ _, _ => by simp [idsOk]
  | .map none, _ => by simp [idsOk]
  | .chan _, _ => by simp [idsOk]
  | .bool _, _ => by simp [idsOk]
  | .int _ _, _ => by simp [idsOk]
  | .float _ _, _ => by simp [idsOk]
  | .complex _ _ _, _ => by simp [idsOk]
  | .string _, _ => by simp [idsOk]
  | .nilFunc, _ => by simp [idsOk]
  | .nilIface, _ => by simp [idsOk]
theorem idsOkA_plain (f : Nat → Bool) : ∀ a : Array Value, plainA a = true → idsOkA f a = true
  | ⟨l⟩, h => by simp only [plainA] at h; simp only [idsOkA]; exact idsOkL_plain f l h
theorem idsOkL_plain (f : Nat → Bool) : ∀ l : List Value, plainL l = true → idsOkL f l = true
  | [], _ => rfl
  | v :: l, h => by
    simp only [plainL, Bool.and_eq_true] at h
    simp only [idsOkL, idsOk_plain f v h.1, idsOkL_plain f l h.2, Bool.and_self]
end
/-- The values of slots: without numbers, or with numbers that are there. -/
def slotsF (f : Nat → Bool) (la : LAct) (ts : List Tmp) : Bool :=
  List.rec (motive := fun _ => Bool) true (fun t _ rest => Option.rec (motive := fun _ => Bool) rest (fun v => bb (bb (plainR v) true (idsOk f v)) rest false) (T.get la.tmps t)) ts
theorem slotsF_eq (f : Nat → Bool) (la : LAct) : ∀ ts, slotsF f la ts = slotsOk (idsOk f) la ts
  | [] => rfl
  | t :: ts => by
    show Option.rec (motive := fun _ => Bool) (slotsF f la ts) (fun v => bb (bb (plainR v) true (idsOk f v)) (slotsF f la ts) false) (T.get la.tmps t) = _
    rw [slotsF_eq f la ts]
    unfold slotsOk
    rw [List.all_cons]
    cases T.get la.tmps t with
    | none => rfl
    | some v =>
      simp only [bb_ite, plainR_eq]
      by_cases hp : plain v = true
      · simp [hp, idsOk_plain f v hp]
      · simp [hp]
def fwdF (sg : Segs) (last : List Nat) : LAct → LH → Option (List DSeg × List NRec × LAct × LH) :=
  List.rec (motive := fun _ => LAct → LH → Option (List DSeg × List NRec × LAct × LH))
    (fun la H => ob (fwdNF P ops base H last la) fun p => Prod.rec (motive := fun _ => Option (List DSeg × List NRec × LAct × LH)) (fun rs la1 => some ([], rs, la1, absorbF base rs H)) p)
    (fun s _ rest la H => ob (fwdNF P ops base H s.1 la) fun p => Prod.rec (motive := fun _ => Option (List DSeg × List NRec × LAct × LH)) (fun rs la1 =>
      ob ops[s.2]? fun o => bb (isSelect o.op) none (bb (slotsF (avail base ops.size (absorbF base rs H)) (restr la1 (looksOf ops s.2)) (looksOf ops s.2))
        (ob (bb (wantedF ops.toList (restr la1 (looksOf ops s.2)) o.guard) (lexecF P orc ih (restr la1 (looksOf ops s.2)) (absorbF base rs H) o) (some (undef, absorbF base rs H))) fun q =>
          Prod.rec (motive := fun _ => Option (List DSeg × List NRec × LAct × LH)) (fun v post => ob (putF la1 o.dst v) fun la2 => ob (rest la2 post) fun z => some (⟨rs, absorbF base rs H, s.2, restr la1 (looksOf ops s.2), v, post⟩ :: z.1, z.2)) q) none)) p) sg
theorem fwdF_eq (last : List Nat) : ∀ (sg : Segs) (la : LAct) (H : LH), fwdF P orc ih ops base sg last la H = fwd P orc ih ops base sg last la H
  | [], la, H => by
    show ob (fwdNF P ops base H last la) _ = _
    rw [fwdNF_eq]
    simp only [fwd]
    cases fwdN P ops base H last la with
    | none => rfl
    | some p =>
      obtain ⟨rs, la1⟩ := p
      show some ([], rs, la1, absorbF base rs H) = _
      rw [absorbF_eq]
  | s :: rest, la, H => by
    show (ob (fwdNF P ops base H s.1 la) fun p => Prod.rec (motive := fun _ => Option (List DSeg × List NRec × LAct × LH)) (fun rs la1 =>
      ob ops[s.2]? fun o => bb (isSelect o.op) none (bb (slotsF (avail base ops.size (absorbF base rs H)) (restr la1 (looksOf ops s.2)) (looksOf ops s.2))
        (ob (bb (wantedF ops.toList (restr la1 (looksOf ops s.2)) o.guard) (lexecF P orc ih (restr la1 (looksOf ops s.2)) (absorbF base rs H) o) (some (undef, absorbF base rs H))) fun q =>
          Prod.rec (motive := fun _ => Option (List DSeg × List NRec × LAct × LH)) (fun v post => ob (putF la1 o.dst v) fun la2 => ob (fwdF P orc ih ops base rest last la2 post) fun z => some (⟨rs, absorbF base rs H, s.2, restr la1 (looksOf ops s.2), v, post⟩ :: z.1, z.2)) q) none)) p) = _
    rw [fwdNF_eq]
    simp only [fwd]
    cases fwdN P ops base H s.1 la with
    | none => rfl
    | some p =>
      obtain ⟨rs, la1⟩ := p
      simp only [ob_some]
      cases ops[s.2]? with
      | none => rfl
      | some o =>
        simp only [ob_some, absorbF_eq, slotsF_eq, wantedF_eq, lexecF_eq, bb_ite]
        cases hsel : isSelect o.op with
        | true => simp
        | false =>
          simp only [Bool.false_eq_true, if_false, and_true]
          by_cases hs : slotsOk (idsOk (avail base ops.size (absorb base H rs))) (restr la1 (looksOf ops s.2)) (looksOf ops s.2) = true
          · simp only [if_pos hs]
            cases (if lwanted ops (restr la1 (looksOf ops s.2)) o = true then lexec P orc ih (restr la1 (looksOf ops s.2)) (absorb base H rs) o else some (undef, absorb base H rs)) with
            | none => rfl
            | some q =>
              obtain ⟨v, post⟩ := q
              simp only [ob_some, putF_eq]
              cases la1.put o.dst v with
              | none => rfl
              | some la2 =>
                simp only [ob_some]
                rw [fwdF_eq last rest la2 post]
                cases fwd P orc ih ops base rest last la2 post with
                | none => rfl
                | some z => obtain ⟨a, b, c, d⟩ := z; rfl
          · simp only [if_neg hs]

def veqF (a b : Value) : Bool := Option.rec (motive := fun _ => Bool) (veq a b) (fun p => Option.rec (motive := fun _ => Bool) (veq a b) (fun q => bb (kindF p.1 q.1) (intEqF p.2 q.2) false) (asIntF b)) (asIntF a)
theorem veqF_eq (a b : Value) : veqF a b = veq a b := by
  cases a <;> try rfl
  rename_i j m
  cases b <;> try rfl
  rename_i k n
  show bb (kindF j k) (intEqF m n) false = _
  simp only [veq, bb_ite]
  cases kindF j k <;> rfl
def bitF (m e : Nat) : Bool := not (Nat.beq (Nat.land 1 (Nat.shiftRight m e)) 0)
theorem bitF_eq (m e : Nat) : bitF m e = Nat.testBit m e := by
  have h : Nat.testBit m e = ((1 &&& (m >>> e)) != 0) := rfl
  rw [h]
  unfold bitF
  rw [nat_beq]
  rfl
def anyBit (m : Nat) (es : List Nat) : Bool := List.rec (motive := fun _ => Bool) false (fun e _ rest => bb (bitF m e) true rest) es
theorem anyBit_eq (m : Nat) : ∀ es : List Nat, anyBit m es = es.any (fun e => Nat.testBit m e)
  | [] => rfl
  | e :: es => by
    show bb (bitF m e) true (anyBit m es) = _
    rw [anyBit_eq m es, bitF_eq, List.any_cons, bb_ite]
    cases Nat.testBit m e <;> rfl
def readF (H : LH) (es : List Nat) (i : Nat) (la : LAct) (v : Value) : Bool :=
  bb (anyBit ((masks ops).getD i 0) es) true (bb (slotsF (avail base ops.size H) la (looksOf ops i)) (Option.rec (motive := fun _ => Bool) false (fun o => bb (isEff o.op) (readAt P ops base H es ⟨i, la, v, .read⟩)
    (Option.rec (motive := fun _ => Bool) false (fun p => Prod.rec (motive := fun _ => Bool) (fun u h => bb (Nat.beq h.next H.next) (veqF u v) false) p) (lopF P la H o))) ops[i]?) false)
def readAtF (H : LH) (es : List Nat) (r : NRec) : Bool := NRec.rec (motive := fun _ => Bool) (fun i la v k => NK.rec (motive := fun _ => Bool) true true (readF P ops base H es i la v) (fun _ => true) k) r
theorem readAtF_eq (H : LH) (es : List Nat) (r : NRec) : readAtF P ops base H es r = readAt P ops base H es r := by
  obtain ⟨i, la, v, k⟩ := r
  cases k <;> try rfl
  show readF P ops base H es i la v = _
  unfold readF
  cases ho : ops[i]? with
  | none =>
    simp only [readAt, ho, anyBit_eq, slotsF_eq, bb_ite]
    cases (es.any fun e => Nat.testBit ((masks ops).getD i 0) e) <;> simp
  | some o =>
    simp only [anyBit_eq, slotsF_eq, bb_ite]
    by_cases he : isEff o.op = true
    · simp only [he, if_true]
      simp only [readAt, ho]
      cases (es.any fun e => Nat.testBit ((masks ops).getD i 0) e) <;> simp <;> cases slotsOk (idsOk (avail base ops.size H)) la (looksOf ops i) <;> simp
    · rw [if_neg he, lopF_eq (by simpa using he)]
      simp only [readAt, ho]
      cases (es.any fun e => Nat.testBit ((masks ops).getD i 0) e) <;> simp <;> cases slotsOk (idsOk (avail base ops.size H)) la (looksOf ops i) <;> simp
      cases lop P (lev la) H o with
      | none => rfl
      | some p => obtain ⟨u, h⟩ := p; simp [veqF_eq, nat_beq]
def allF (f : NRec → Bool) (l : List NRec) (z : Bool) : Bool := List.rec (motive := fun _ => Bool) z (fun r _ rest => bb (f r) rest false) l
theorem allF_eq (f : NRec → Bool) (z : Bool) : ∀ l : List NRec, allF f l z = (l.all f && z)
  | [] => by simp [allF]
  | r :: l => by
    show bb (f r) (allF f l z) false = _
    rw [allF_eq f z l, bb_ite, List.all_cons]
    cases f r <;> simp
def allsF (f : NRec → Bool) (l : List DSeg) (z : Bool) : Bool := List.rec (motive := fun _ => Bool) z (fun s _ rest => allF f s.ns rest) l
theorem allsF_eq (f : NRec → Bool) (z : Bool) : ∀ l : List DSeg, allsF f l z = ((l.flatMap (·.ns)).all f && z)
  | [] => by simp [allsF]
  | s :: l => by
    show allF f s.ns (allsF f l z) = _
    rw [allF_eq, allsF_eq f z l, List.flatMap_cons, List.all_append, Bool.and_assoc]
def esF (l : List DSeg) : List Nat := List.rec (motive := fun _ => List Nat) [] (fun s _ rest => s.e :: rest) l
theorem esF_eq : ∀ l : List DSeg, esF l = l.map (·.e)
  | [] => rfl
  | s :: l => congrArg (s.e :: ·) (esF_eq l)
def readsF (last : List NRec) (ds : List DSeg) : LH → Bool :=
  List.rec (motive := fun _ => LH → Bool) (fun H => bb (Nat.ble H.next BIG) (allF (readAtF P ops base H []) last true) false)
    (fun s rest go H => bb (Nat.ble H.next BIG) (allF (readAtF P ops base H (s.e :: esF rest)) s.ns (allsF (readAtF P ops base H (s.e :: esF rest)) rest (allF (readAtF P ops base H (s.e :: esF rest)) last (go s.post)))) false) ds
theorem readsF_eq (last : List NRec) : ∀ (ds : List DSeg) (H : LH), readsF P ops base last ds H = readsAt P ops base last ds H
  | [], H => by
    show bb (Nat.ble H.next BIG) (allF (readAtF P ops base H []) last true) false = _
    have hf : readAtF P ops base H [] = readAt P ops base H [] := funext fun r => readAtF_eq P ops base H [] r
    rw [allF_eq, hf, bb_ite]
    simp only [readsAt, Bool.and_true]
    cases Nat.ble H.next BIG <;> simp
  | s :: rest, H => by
    show bb (Nat.ble H.next BIG) (allF (readAtF P ops base H (s.e :: esF rest)) s.ns (allsF (readAtF P ops base H (s.e :: esF rest)) rest (allF (readAtF P ops base H (s.e :: esF rest)) last (readsF P ops base last rest s.post)))) false = _
    have hf : readAtF P ops base H (s.e :: esF rest) = readAt P ops base H (s.e :: rest.map (·.e)) := by rw [esF_eq]; exact funext fun r => readAtF_eq P ops base H _ r
    rw [allF_eq, allsF_eq, allF_eq, hf, readsF_eq last rest, bb_ite]
    simp only [readsAt, List.all_append]
    cases Nat.ble H.next BIG <;> simp [Bool.and_assoc]
end
def okPlan (ops : Array Oper) : Bool := planOk ops (planOf ops).1 (planOf ops).2
def anyF (P : Program) (orc : Orc) : (Task → Option Res) → Array Oper → LAct → LH → Option (LAct × LH) := fun ih ops la h =>
  bb (P.follows .mixedOrders) (bb (okPlan ops) (ob (fwdF P orc ih ops h.next (planOf ops).1 (planOf ops).2 la ⟨h.t, h.next + ops.size⟩) fun z =>
    bb (readsF P ops h.next z.2.1 z.1 ⟨h.t, h.next + ops.size⟩) (LAct.rec (motive := fun _ => Option (LAct × LH)) (fun t n _ => some (⟨t, n, la.marks⟩, z.2.2.2)) z.2.2.1) none) none) none
theorem anyF_eq (P : Program) (orc : Orc) : anyF P orc = anyRun P orc := by
  funext ih ops la h
  unfold anyF anyRun okPlan
  rw [fwdF_eq]
  simp only [bb_ite]
  by_cases h1 : P.follows .mixedOrders = true
  · rw [if_pos h1, if_pos h1]
    by_cases h2 : planOk ops (planOf ops).1 (planOf ops).2 = true
    · rw [if_pos h2, if_pos h2]
      cases fwd P orc ih ops h.next (planOf ops).1 (planOf ops).2 la ⟨h.t, h.next + ops.size⟩ with
      | none => rfl
      | some z =>
        obtain ⟨ds, rs, laF, hF⟩ := z
        simp only [ob_some, readsF_eq]
    · rw [if_neg h2, if_neg h2]
  · rw [if_neg h1, if_neg h1]
end
end Go.Proofs.YtedfhallhpkkhaaGreatDoor.X
