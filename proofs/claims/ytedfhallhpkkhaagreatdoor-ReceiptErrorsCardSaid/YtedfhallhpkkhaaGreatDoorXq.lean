/- The local run once more, by the recursors themselves: one operation. Any program. -/
import Derived.Test.YtedfhallhpkkhaaGreatDoorXp
set_option linter.unusedVariables false
set_option linter.unusedSimpArgs false
namespace Go.Proofs.YtedfhallhpkkhaaGreatDoor.X
open Go
noncomputable section

def levTmp (t : Tmp) (a : LAct) : Option Value := some (Option.rec (motive := fun _ => Value) undef (fun v => v) (T.get a.tmps t))
def levConst (v : Value) (_ : LAct) : Option Value := bb (plainR v) (some v) none
def levGlob (g : Nat) (_ : LAct) : Option Value := bb (Nat.beq g 0) (some (.pointer (some ⟨0, 0, none⟩))) none
def levFun (f : FuncId) (_ : LAct) : Option Value := some (.func (.func f) #[] #[])
def levF (x : Operand) (a : LAct) : Option Value := Operand.rec (motive := fun _ => LAct → Option Value) levTmp levConst levGlob levFun x a
theorem levF_eq (x : Operand) (a : LAct) : levF x a = lev a x := by
  cases x with
  | tmp t =>
    show some _ = some _
    cases h : a.tmps.get t <;> simp [h]
  | const v =>
    show bb (plainR v) (some v) none = _
    rw [plainR_eq, bb_ite]; rfl
  | global g =>
    show bb (Nat.beq g 0) _ none = _
    rw [bb_ite]
    cases g with
    | zero => rfl
    | succ n => rfl
  | func f => rfl
def evalsF (a : LAct) (l : List Operand) : Option (List Value) := List.rec (motive := fun _ => Option (List Value)) (some []) (fun x _ ih => ob (levF x a) fun v => ob ih fun vs => some (v :: vs)) l
theorem evalsF_eq (a : LAct) : ∀ l, evalsF a l = evals (lev a) l
  | [] => rfl
  | x :: l => by
    show ob (levF x a) (fun v => ob (evalsF a l) fun vs => some (v :: vs)) = _
    rw [levF_eq, evalsF_eq a l]
    simp only [evals]
    cases lev a x with
    | none => rfl
    | some v => cases evals (lev a) l <;> rfl

def asPtrF (v : Value) : Option Addr :=
  Value.rec (motive_1 := fun _ => Option Addr) (motive_2 := fun _ => PUnit) (motive_3 := fun _ => PUnit)
    (fun _ => none) (fun _ _ => none) (fun _ _ => none) (fun _ _ _ => none) (fun _ => none) (fun a => a) (fun _ _ _ => none) (fun _ => none) (fun _ => none) (fun _ _ _ _ _ => none) none (fun _ _ _ => none) none (fun _ _ => none) (fun _ _ => none)
    (fun _ _ => ⟨⟩) ⟨⟩ (fun _ _ _ _ => ⟨⟩) v
def asIntF (v : Value) : Option (IntKind × Int) :=
  Value.rec (motive_1 := fun _ => Option (IntKind × Int)) (motive_2 := fun _ => PUnit) (motive_3 := fun _ => PUnit)
    (fun _ => none) (fun k n => some (k, n)) (fun _ _ => none) (fun _ _ _ => none) (fun _ => none) (fun _ => none) (fun _ _ _ => none) (fun _ => none) (fun _ => none) (fun _ _ _ _ _ => none) none (fun _ _ _ => none) none (fun _ _ => none) (fun _ _ => none)
    (fun _ _ => ⟨⟩) ⟨⟩ (fun _ _ _ _ => ⟨⟩) v
def asTupF (v : Value) : Option (Array Value) :=
  Value.rec (motive_1 := fun _ => Option (Array Value)) (motive_2 := fun _ => PUnit) (motive_3 := fun _ => PUnit)
    (fun _ => none) (fun _ _ => none) (fun _ _ => none) (fun _ _ _ => none) (fun _ => none) (fun _ => none) (fun _ _ _ => none) (fun _ => none) (fun _ => none) (fun _ _ _ _ _ => none) none (fun _ _ _ => none) none (fun _ _ => none) (fun vs _ => some vs)
    (fun _ _ => ⟨⟩) ⟨⟩ (fun _ _ _ _ => ⟨⟩) v
def asFunF (v : Value) : Option (Fn × Array Value × Array Value) :=
  Value.rec (motive_1 := fun _ => Option (Fn × Array Value × Array Value)) (motive_2 := fun _ => PUnit) (motive_3 := fun _ => PUnit)
    (fun _ => none) (fun _ _ => none) (fun _ _ => none) (fun _ _ _ => none) (fun _ => none) (fun _ => none) (fun _ _ _ => none) (fun _ => none) (fun _ => none) (fun f a b _ _ => some (f, a, b)) none (fun _ _ _ => none) none (fun _ _ => none) (fun _ _ => none)
    (fun _ _ => ⟨⟩) ⟨⟩ (fun _ _ _ _ => ⟨⟩) v
def asSlcF (v : Value) : Option (Option Addr × Nat) :=
  Value.rec (motive_1 := fun _ => Option (Option Addr × Nat)) (motive_2 := fun _ => PUnit) (motive_3 := fun _ => PUnit)
    (fun _ => none) (fun _ _ => none) (fun _ _ => none) (fun _ _ _ => none) (fun _ => none) (fun _ => none) (fun a n _ => some (a, n)) (fun _ => none) (fun _ => none) (fun _ _ _ _ _ => none) none (fun _ _ _ => none) none (fun _ _ => none) (fun _ _ => none)
    (fun _ _ => ⟨⟩) ⟨⟩ (fun _ _ _ _ => ⟨⟩) v
def cellsF (h : LH) (i : Nat) : Option (List Value × Nat) :=
  ob (T.get h.t i) fun o => LO.rec (motive := fun _ => Option (List Value × Nat)) (fun c e => some (c, e)) (fun _ _ => none) (fun _ => none) (fun _ => none) o
theorem cellsF_eq (h : LH) (i : Nat) : cellsF h i = cellsAt h i := by
  unfold cellsF cellsAt LH.get
  cases h.t.get i with
  | none => rfl
  | some o => cases o <;> rfl

/-! ### Load, store, addresses -/
def lload4 (t : TypeId) (off : Nat) (c : List Value) (i : TypeInfo) : Option Value := bb (Nat.ble (off + i.size) (lenF c)) (some (.agg ⟨takeF i.size (dropF off c)⟩)) none
def lload3 (P : Program) (t : TypeId) (off : Nat) (c : List Value) (b : Bool) : Option Value := bb b (ob (P.info? t) (lload4 t off c)) (nthF c off)
def gloadF (P : Program) (t : TypeId) (off : Nat) : Option Value := ob (runP P (isAgg t)) fun b => bb b none (nthF gconst off)
def lloadF (P : Program) (h : LH) (t : TypeId) (x : Value) : Option Value :=
  ob (asPtrF x) fun a => Option.rec (motive := fun _ => Option Value) (bb (Nat.beq a.block 0) (gloadF P t a.off) none) (fun p => ob (runP P (isAgg t)) (lload3 P t a.off p.1)) (cellsF h a.block)
theorem lloadF_eq (P : Program) (h : LH) (t : TypeId) (x : Value) : lloadF P h t x = lload P h t x := by
  unfold lloadF lload
  cases x with
  | pointer a =>
    cases a with
    | none => rfl
    | some a =>
      show Option.rec (motive := fun _ => Option Value) (bb (Nat.beq a.block 0) (gloadF P t a.off) none) (fun p => ob (runP P (isAgg t)) (lload3 P t a.off p.1)) (cellsF h a.block) = _
      rw [cellsF_eq]
      simp only
      cases cellsAt h a.block with
      | none =>
        simp only
        by_cases h0 : a.block = 0
        · rw [if_pos h0, h0]
          show gloadF P t a.off = _
          unfold gloadF
          cases runP P (isAgg t) with
          | none => rfl
          | some b => cases b with
            | true => rfl
            | false => exact nthF_eq gconst a.off
        · rw [if_neg h0]
          have : Nat.beq a.block 0 = false := by
            cases hb : Nat.beq a.block 0 with
            | false => rfl
            | true => exact absurd (Nat.eq_of_beq_eq_true hb) h0
          rw [this]; rfl
      | some p =>
        obtain ⟨c, e⟩ := p
        simp only [ob_some]
        cases runP P (isAgg t) with
        | none => rfl
        | some b =>
          cases b with
          | false => exact nthF_eq c a.off
          | true =>
            show ob (P.info? t) _ = _
            simp only
            cases P.info? t with
            | none => rfl
            | some i =>
              simp only [ob_some, lload4, lenF_eq, takeF_eq, dropF_eq]
              by_cases hle : a.off + i.size ≤ c.length
              · rw [if_pos hle, Nat.ble_eq_true_of_le hle]; rfl
              · rw [if_neg hle]
                have : Nat.ble (a.off + i.size) c.length = false := by
                  cases hb : Nat.ble (a.off + i.size) c.length with
                  | false => rfl
                  | true => exact absurd (Nat.le_of_ble_eq_true hb) hle
                rw [this]; rfl
  | _ => rfl

def addF (a : Addr) (n : Nat) : Addr := Nat.rec (motive := fun _ => Addr) a (fun _ _ => ⟨a.block, a.off + n, none⟩) n
theorem addF_eq (a : Addr) (n : Nat) : addF a n = a.add n := by
  cases n with
  | zero => rfl
  | succ n => simp [addF, Addr.add]
def fieldsF (d : TypeDesc) : Option (Array Field) := TypeDesc.rec (motive := fun _ => Option (Array Field)) none none (fun _ => none) (fun _ => none) (fun _ => none) none none (fun _ => none) (fun _ => none) (fun _ _ => none) (fun _ _ => none) (fun _ _ => none) (fun fs => some fs) (fun _ _ _ => none) (fun _ => none) (fun _ => none) (fun _ _ => none) d
def fieldF (P : Program) (t : TypeId) (f : Nat) : Option Nat :=
  ob (P.underlying t) fun d => ob (fieldsF d) fun fs => ob (nthF fs.toList f) fun fd => ob (P.info? fd.type) fun i => bb (Nat.beq i.size 0) none (some fd.offset)
def lfieldAddrF (P : Program) (t : TypeId) (x : Value) (f : Nat) : Option Value := ob (asPtrF x) fun a => ob (fieldF P t f) fun n => some (.pointer (some (addF a n)))
theorem lfieldAddrF_eq (P : Program) (t : TypeId) (x : Value) (f : Nat) : lfieldAddrF P t x f = lfieldAddr P t x f := by
  have hnone : (∀ a, x ≠ .pointer (some a)) → lfieldAddr P t x f = none := by
    intro hx
    unfold lfieldAddr
    split
    · split
      · split
        · rename_i a _ _; exact absurd rfl (hx a)
        · rfl
      · rfl
    · rfl
  cases x with
  | pointer a =>
    cases a with
    | none => rw [hnone (fun a h => by cases h)]; rfl
    | some a =>
      show ob (fieldF P t f) _ = _
      unfold lfieldAddr fieldF
      cases P.underlying t with
      | none => rfl
      | some d =>
        cases d with
        | struct fs =>
          show ob (ob (nthF fs.toList f) _) _ = _
          rw [nthF_eq, Array.getElem?_toList]
          simp only
          cases fs[f]? with
          | none => rfl
          | some fd =>
            simp only [ob_some]
            cases P.info? fd.type with
            | none => rfl
            | some i =>
              simp only [ob_some]
              cases hz : i.size with
              | zero => rfl
              | succ n =>
                show some _ = _
                rw [if_neg (by omega), addF_eq]
        | _ => rfl
  | _ => rw [hnone (fun a h => by cases h)]; rfl

/-! ### Whole numbers -/
def intAddF (x y : Int) : Int := Int.rec (motive := fun _ => Int) (fun m => Int.rec (motive := fun _ => Int) (fun n => Int.ofNat (Nat.add m n)) (fun _ => x + y) y) (fun _ => x + y) x
theorem intAddF_eq (x y : Int) : intAddF x y = x + y := by cases x <;> cases y <;> rfl
def intEqF (x y : Int) : Bool := Int.rec (motive := fun _ => Bool) (fun m => Int.rec (motive := fun _ => Bool) (fun n => Nat.beq m n) (fun _ => false) y) (fun m => Int.rec (motive := fun _ => Bool) (fun _ => false) (fun n => Nat.beq m n) y) x
theorem nat_beq (m n : Nat) : Nat.beq m n = decide (m = n) := by
  by_cases h : m = n
  · subst h; simp
  · have : Nat.beq m n = false := by
      cases hb : Nat.beq m n with
      | false => rfl
      | true => exact absurd (Nat.eq_of_beq_eq_true hb) h
    simp [this, h]
theorem nat_ble (m n : Nat) : Nat.ble m n = decide (m ≤ n) := by
  by_cases h : m ≤ n
  · simp [h, Nat.ble_eq_true_of_le h]
  · have : Nat.ble m n = false := by
      cases hb : Nat.ble m n with
      | false => rfl
      | true => exact absurd (Nat.le_of_ble_eq_true hb) h
    simp [this, h]
theorem intEqF_eq (x y : Int) : intEqF x y = (x == y) := by
  have h : (x == y) = decide (x = y) := rfl
  rw [h]
  cases x with
  | ofNat m => cases y with
    | ofNat n => show Nat.beq m n = _; rw [nat_beq]; simp; omega
    | negSucc n => show false = _; symm; simp
  | negSucc m => cases y with
    | ofNat n => show false = _; symm; simp
    | negSucc n => show Nat.beq m n = _; rw [nat_beq]; simp
def intLtF (x y : Int) : Bool := Int.rec (motive := fun _ => Bool) (fun m => Int.rec (motive := fun _ => Bool) (fun n => Nat.ble (Nat.succ m) n) (fun _ => false) y) (fun m => Int.rec (motive := fun _ => Bool) (fun _ => true) (fun n => Nat.ble (Nat.succ n) m) y) x
theorem intLtF_eq (x y : Int) : intLtF x y = decide (x < y) := by
  cases x with
  | ofNat m => cases y with
    | ofNat n => show Nat.ble (m + 1) n = _; rw [nat_ble]; simp; omega
    | negSucc n => show false = _; symm; simp; omega
  | negSucc m => cases y with
    | ofNat n => show true = _; symm; simp; omega
    | negSucc n => show Nat.ble (n + 1) m = _; rw [nat_ble]; simp; omega
def modF (k : IntKind) : Nat := IntKind.rec (motive := fun _ => Nat) 0 0 0 0 256 65536 4294967296 18446744073709551616 k
def bitsF (k : IntKind) : Nat := IntKind.rec (motive := fun _ => Nat) 0 0 0 0 8 16 32 64 k
theorem modF_bits {k : IntKind} (h : modF k ≠ 0) : modF k = 2 ^ k.bits ∧ k.signed = false ∧ bitsF k = k.bits := by
  cases k <;> first | exact absurd rfl h | exact ⟨rfl, rfl, rfl⟩
theorem wrap_mod {k : IntKind} (h : modF k ≠ 0) (m : Nat) : k.wrap (Int.ofNat m) = Int.ofNat (m % modF k) := by
  obtain ⟨h1, h2, _⟩ := modF_bits h
  simp only [IntKind.wrap, h2, Bool.false_and, Bool.false_eq_true, if_false, h1]
  exact (Int.natCast_emod m (2 ^ k.bits)).symm ▸ by simp
def wrapS (k : IntKind) (n : Int) : Int :=
  bb (IntKind.rec (motive := fun _ => Bool) false false false true false false false false k) (Int.rec (motive := fun _ => Int) (fun m => bb (Nat.ble m 9223372036854775807) (Int.ofNat m) (k.wrap n)) (fun m => bb (Nat.ble m 9223372036854775807) (Int.negSucc m) (k.wrap n)) n) (k.wrap n)
theorem wrapS_eq (k : IntKind) (n : Int) : wrapS k n = k.wrap n := by
  cases k <;> try rfl
  cases n with
  | ofNat m =>
    show bb (Nat.ble m 9223372036854775807) (Int.ofNat m) _ = _
    rw [bb_ite]
    split
    · rename_i h
      rw [nat_ble] at h
      rw [IntKind.wrap_i64]
      simp at h ⊢
      omega
    · rfl
  | negSucc m =>
    show bb (Nat.ble m 9223372036854775807) (Int.negSucc m) _ = _
    rw [bb_ite]
    split
    · rename_i h
      rw [nat_ble] at h
      rw [IntKind.wrap_i64]
      simp at h
      omega
    · rfl
def wrapF (k : IntKind) (n : Int) : Int := bb (Nat.beq (modF k) 0) (wrapS k n) (Int.rec (motive := fun _ => Int) (fun m => Int.ofNat (Nat.mod m (modF k))) (fun _ => k.wrap n) n)
theorem wrapF_eq (k : IntKind) (n : Int) : wrapF k n = k.wrap n := by
  unfold wrapF
  rw [bb_ite, nat_beq]
  by_cases h : modF k = 0
  · rw [if_pos (by simpa using h), wrapS_eq]
  · rw [if_neg (by simpa using h)]
    cases n with
    | ofNat m => exact (wrap_mod h m).symm
    | negSucc m => rfl
/-- A bit operation on two whole numbers of one kind without a sign. -/
def bitOpF (f : Nat → Nat → Nat) (k : IntKind) (x y : Int) : Option Value :=
  bb (Nat.beq (modF k) 0) none (Int.rec (motive := fun _ => Option Value) (fun m => Int.rec (motive := fun _ => Option Value) (fun n => some (.int k (Int.ofNat (f (Nat.mod m (modF k)) (Nat.mod n (modF k)))))) (fun _ => none) y) (fun _ => none) x)
theorem bitOpF_some {f : Nat → Nat → Nat} {k : IntKind} {x y : Int} {v : Value} (h : bitOpF f k x y = some v) : modF k ≠ 0 ∧ ∃ m n, x = Int.ofNat m ∧ y = Int.ofNat n ∧ v = .int k (Int.ofNat (f (m % modF k) (n % modF k))) := by
  unfold bitOpF at h
  rw [bb_ite, nat_beq] at h
  split at h
  · cases h
  · rename_i h0
    refine ⟨by simpa using h0, ?_⟩
    cases x with
    | negSucc m => cases h
    | ofNat m =>
      cases y with
      | negSucc n => cases h
      | ofNat n =>
        simp only [Option.some.injEq] at h
        exact ⟨m, n, rfl, rfl, h.symm⟩
theorem bits_back {k : IntKind} (h : modF k ≠ 0) {r : Nat} (hr : r < 2 ^ k.bits) : k.wrap (r : Nat) = Int.ofNat r := by
  have := wrap_mod h r
  rw [(modF_bits h).1, Nat.mod_eq_of_lt hr] at this
  exact this
theorem ofInt_nat (w m : Nat) : (BitVec.ofInt w (Int.ofNat m)).toNat = m % 2 ^ w := by
  have : BitVec.ofInt w (Int.ofNat m) = BitVec.ofNat w m := BitVec.ofInt_natCast w m
  rw [this, BitVec.toNat_ofNat]
theorem bitOpF_eq {op : BinOp} {f : Nat → Nat → Nat} {k : IntKind} {x y : Int} {v : Value} (t : TypeId) (h : bitOpF f k x y = some v)
    (hop : (op = .and ∧ f = Nat.land) ∨ (op = .or ∧ f = Nat.lor) ∨ (op = .xor ∧ f = Nat.xor)) : binOp op t (.int k x) (.int k y) = pure v ∧ plain v = true := by
  obtain ⟨h0, m, n, rfl, rfl, rfl⟩ := bitOpF_some h
  refine ⟨?_, rfl⟩
  have hm : m % 2 ^ k.bits < 2 ^ k.bits := Nat.mod_lt _ (Nat.two_pow_pos _)
  have hn : n % 2 ^ k.bits < 2 ^ k.bits := Nat.mod_lt _ (Nat.two_pow_pos _)
  rcases hop with ⟨rfl, rfl⟩ | ⟨rfl, rfl⟩ | ⟨rfl, rfl⟩
  · simp only [binOp, ne_eq, not_true_eq_false, if_false, Op.intBits, BitVec.toNat_and, ofInt_nat]
    rw [bits_back h0 (Nat.and_lt_two_pow _ hn), (modF_bits h0).1]; rfl
  · simp only [binOp, ne_eq, not_true_eq_false, if_false, Op.intBits, BitVec.toNat_or, ofInt_nat]
    rw [bits_back h0 (Nat.or_lt_two_pow hm hn), (modF_bits h0).1]; rfl
  · simp only [binOp, ne_eq, not_true_eq_false, if_false, Op.intBits, BitVec.toNat_xor, ofInt_nat]
    rw [bits_back h0 (Nat.xor_lt_two_pow hm hn), (modF_bits h0).1]; rfl
/-- A shift of a whole number without a sign. -/
def shlF (k : IntKind) (x y : Int) : Option Value :=
  bb (Nat.beq (modF k) 0) none (Int.rec (motive := fun _ => Option Value) (fun m => Int.rec (motive := fun _ => Option Value) (fun n => some (.int k (Int.ofNat (Nat.mod (Nat.mul m (Nat.pow 2 (bb (Nat.ble n (bitsF k)) n (bitsF k)))) (modF k))))) (fun _ => none) y) (fun _ => none) x)
def shrF (k : IntKind) (x y : Int) : Option Value :=
  bb (Nat.beq (modF k) 0) none (Int.rec (motive := fun _ => Option Value) (fun m => Int.rec (motive := fun _ => Option Value) (fun n => some (.int k (Int.ofNat (Nat.div m (Nat.pow 2 (bb (Nat.ble n (bitsF k)) n (bitsF k))))))) (fun _ => none) y) (fun _ => none) x)
theorem min_F (n b : Nat) : bb (Nat.ble n b) n b = min n b := by
  rw [bb_ite, nat_ble]
  by_cases h : n ≤ b
  · rw [if_pos (by simpa using h), Nat.min_eq_left h]
  · rw [if_neg (by simpa using h), Nat.min_eq_right (by omega)]
def shiftF (op : BinOp) (k : IntKind) (x y : Int) : Option Value := BinOp.rec (motive := fun _ => Option Value) none none none none none none none none (shlF k x y) (shrF k x y) none none none none none none none op
theorem shiftF_eq {op : BinOp} {j k : IntKind} {x y : Int} {v : Value} (t : TypeId) (h : shiftF op j x y = some v) : binOp op t (.int j x) (.int k y) = pure v ∧ plain v = true := by
  cases op <;> try (cases h; done)
  case shl =>
    have h : shlF j x y = some v := h
    unfold shlF at h
    rw [bb_ite, nat_beq] at h
    split at h
    · cases h
    · rename_i h0
      have h0 : modF j ≠ 0 := by simpa using h0
      cases x with
      | negSucc m => cases h
      | ofNat m =>
        cases y with
        | negSucc n => cases h
        | ofNat n =>
          simp only [Option.some.injEq] at h
          subst h
          refine ⟨?_, rfl⟩
          simp only [binOp, Op.shift]
          rw [if_neg (by simp), min_F, (modF_bits h0).2.2]
          have : (Int.ofNat m * 2 ^ min (Int.ofNat n).toNat j.bits : Int) = Int.ofNat (m * 2 ^ min n j.bits) := by simp
          rw [this, wrap_mod h0]
          rfl
  case shr =>
    have h : shrF j x y = some v := h
    unfold shrF at h
    rw [bb_ite, nat_beq] at h
    split at h
    · cases h
    · rename_i h0
      have h0 : modF j ≠ 0 := by simpa using h0
      cases x with
      | negSucc m => cases h
      | ofNat m =>
        cases y with
        | negSucc n => cases h
        | ofNat n =>
          simp only [Option.some.injEq] at h
          subst h
          refine ⟨?_, rfl⟩
          simp only [binOp, Op.shift]
          rw [if_neg (by simp), min_F, (modF_bits h0).2.2]
          have : (Int.ofNat m).fdiv (2 ^ min (Int.ofNat n).toNat j.bits : Int) = Int.ofNat (m / 2 ^ min n j.bits) := by
            have e : (2 ^ min (Int.ofNat n).toNat j.bits : Int) = ((2 ^ min n j.bits : Nat) : Int) := by simp
            rw [e]
            exact (Int.ofNat_fdiv m _).symm
          rw [this]
          rfl
def kindF (j k : IntKind) : Bool :=
  IntKind.rec (motive := fun _ => Bool) (IntKind.rec (motive := fun _ => Bool) true false false false false false false false k) (IntKind.rec (motive := fun _ => Bool) false true false false false false false false k)
    (IntKind.rec (motive := fun _ => Bool) false false true false false false false false k) (IntKind.rec (motive := fun _ => Bool) false false false true false false false false k)
    (IntKind.rec (motive := fun _ => Bool) false false false false true false false false k) (IntKind.rec (motive := fun _ => Bool) false false false false false true false false k)
    (IntKind.rec (motive := fun _ => Bool) false false false false false false true false k) (IntKind.rec (motive := fun _ => Bool) false false false false false false false true k) j
theorem kindF_eq {j k : IntKind} (h : kindF j k = true) : j = k := by cases j <;> cases k <;> first | rfl | cases h

/-! ### Elements -/
def elemOf (P : Program) (t : TypeId) : Option (Option Nat × Nat) :=
  match P.underlying t with
  | some (.array len elem) => (P.info? elem).map fun ie => (some len, ie.size)
  | some (.slice elem) => (P.info? elem).map fun ie => (none, ie.size)
  | _ => none
def idxF (sz n lim : Nat) (a : Addr) : Option Value := bb (Nat.ble (Nat.succ n) lim) (some (.pointer (some (addF a (Nat.mul n sz))))) none
theorem idxF_eq (sz n lim : Nat) (a : Addr) : idxF sz n lim a = if 0 ≤ (Int.ofNat n) ∧ (Int.ofNat n) < (lim : Int) then some (.pointer (some (a.add ((Int.ofNat n).toNat * sz)))) else none := by
  unfold idxF
  rw [bb_ite, nat_ble, addF_eq]
  by_cases h : n < lim
  · have h1 : Nat.succ n ≤ lim := h
    rw [if_pos (by simpa using h1), if_pos (by constructor <;> simp <;> omega)]; rfl
  · have h1 : ¬ Nat.succ n ≤ lim := h
    rw [if_neg (by simpa using h1), if_neg (by simp; omega)]
def lindexAddrF (P : Program) (t : TypeId) (x ix : Value) : Option Value :=
  ob (asIntF ix) fun ki => Int.rec (motive := fun _ => Option Value) (fun n => ob (elemOf P t) fun le => Option.rec (motive := fun _ => Option Value) (ob (asSlcF x) fun al => ob al.1 fun a => idxF le.2 n al.2 a) (fun len => ob (asPtrF x) fun a => idxF le.2 n len a) le.1) (fun _ => none) ki.2
theorem lindexAddrF_eq (P : Program) (t : TypeId) (x ix : Value) : lindexAddrF P t x ix = lindexAddr P t x ix := by
  unfold lindexAddrF lindexAddr
  cases ix <;> try rfl
  rename_i k i
  show Int.rec (motive := fun _ => Option Value) (fun n => ob (elemOf P t) fun le => Option.rec (motive := fun _ => Option Value) (ob (asSlcF x) fun al => ob al.1 fun a => idxF le.2 n al.2 a) (fun len => ob (asPtrF x) fun a => idxF le.2 n len a) le.1) (fun _ => none) i = _
  cases i with
  | negSucc n =>
    simp only
    split
    · split
      · rw [if_neg (by omega)]
      · rfl
    · split
      · rw [if_neg (by omega)]
      · rfl
    · rfl
  | ofNat n =>
    simp only [elemOf]
    cases hu : P.underlying t with
    | none => rfl
    | some d =>
      cases d <;> try rfl
      case array len elem =>
        cases x <;> try (simp only; cases P.info? elem <;> rfl)
        rename_i a
        cases a with
        | none => simp only; cases P.info? elem <;> rfl
        | some a =>
          simp only
          cases P.info? elem with
          | none => rfl
          | some ie => exact idxF_eq _ _ _ _
      case slice elem =>
        cases x <;> try (simp only; cases P.info? elem <;> rfl)
        rename_i a l c
        cases a with
        | none => simp only; cases P.info? elem <;> rfl
        | some a =>
          simp only
          cases P.info? elem with
          | none => rfl
          | some ie => exact idxF_eq _ _ _ _
end
end Go.Proofs.YtedfhallhpkkhaaGreatDoor.X
