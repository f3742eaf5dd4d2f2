/- The executor: values, renaming, the local heap, the operations on memory. -/
import Derived.CallsIn
import Derived.OrdersIn
import Derived.RangeFuncIn
import Derived.Deep.MidRow
import Derived.Laws.BytesString
import Derived.Room.Entries
import Derived.IntWalk
set_option linter.unusedVariables false
set_option linter.unusedSimpArgs false
/- A local form of the model's values: block numbers are renamed by a partial map, and the spare capacity behind a local block is left open. Plain lemmas on the renaming; no program. -/
namespace Go.Proofs.YtedfhallhpkkhaaGreatDoor.X
open Go

/-- Where a local block lies: the real block's number, and by how many elements its capacity is greater than the local one. -/
abbrev Map := Nat → Option (Nat × Nat)
def Map.b (R : Map) (i : Nat) : Nat := ((R i).map (·.1)).getD 0
def Map.d (R : Map) (i : Nat) : Nat := ((R i).map (·.2)).getD 0
def Map.ext (R R' : Map) : Prop := ∀ i x, R i = some x → R' i = some x

theorem Map.ext_refl (R : Map) : R.ext R := fun _ _ h => h
theorem Map.ext_trans {R R' R'' : Map} (h : R.ext R') (h' : R'.ext R'') : R.ext R'' := fun i x hx => h' i x (h i x hx)
theorem Map.ext_some {R R' : Map} (h : R.ext R') {i : Nat} (hi : (R i).isSome = true) : R' i = R i := by
  obtain ⟨x, hx⟩ := Option.isSome_iff_exists.1 hi
  rw [hx, h i x hx]
theorem Map.ext_b {R R' : Map} (h : R.ext R') {i : Nat} (hi : (R i).isSome = true) : R'.b i = R.b i := by
  unfold Map.b; rw [Map.ext_some h hi]
theorem Map.ext_d {R R' : Map} (h : R.ext R') {i : Nat} (hi : (R i).isSome = true) : R'.d i = R.d i := by
  unfold Map.d; rw [Map.ext_some h hi]
theorem Map.ext_isSome {R R' : Map} (h : R.ext R') {i : Nat} (hi : (R i).isSome = true) : (R' i).isSome = true := by
  rw [Map.ext_some h hi]; exact hi

def renFn (R : Map) : Fn → Fn
  | .yield l => .yield (R.b l)
  | f => f
def wfFn (R : Map) : Fn → Prop
  | .yield l => (R l).isSome = true
  | _ => True

mutual
def ren (R : Map) : Value → Value
  | .pointer (some a) => .pointer (some ⟨R.b a.block, a.off, a.spot⟩)
  | .slice (some a) len cap => .slice (some ⟨R.b a.block, a.off, a.spot⟩) len (cap + R.d a.block)
  | .map (some r) => .map (some (R.b r))
  | .func fn fs cs => .func (renFn R fn) (renA R fs) (renA R cs)
  | .iface t v => .iface t (ren R v)
  | .agg cs => .agg (renA R cs)
  | .tuple vs => .tuple (renA R vs)
  | v => v
def renA (R : Map) : Array Value → Array Value
  | ⟨l⟩ => ⟨renL R l⟩
def renL (R : Map) : List Value → List Value
  | [] => []
  | v :: l => ren R v :: renL R l
end

mutual
def wfv (R : Map) : Value → Prop
  | .pointer (some a) => (R a.block).isSome = true ∧ a.spot = none
  | .slice (some a) _ _ => (R a.block).isSome = true ∧ a.spot = none
  | .map (some r) => (R r).isSome = true
  | .chan (some _) => False
  | .func fn fs cs => wfFn R fn ∧ wfA R fs ∧ wfA R cs
  | .iface _ v => wfv R v
  | .agg cs => wfA R cs
  | .tuple vs => wfA R vs
  | _ => True
def wfA (R : Map) : Array Value → Prop
  | ⟨l⟩ => wfL R l
def wfL (R : Map) : List Value → Prop
  | [] => True
  | v :: l => wfv R v ∧ wfL R l
end

theorem renL_eq (R : Map) (l : List Value) : renL R l = l.map (ren R) := by
  induction l with
  | nil => rfl
  | cons v l ih => simp [renL, ih]
theorem renA_eq (R : Map) (a : Array Value) : renA R a = a.map (ren R) := by
  cases a with | mk l => simp [renA, renL_eq]
theorem wfL_iff (R : Map) (l : List Value) : wfL R l ↔ ∀ v ∈ l, wfv R v := by
  induction l with
  | nil => simp [wfL]
  | cons v l ih => simp [wfL, ih]
theorem wfA_iff (R : Map) (a : Array Value) : wfA R a ↔ ∀ v ∈ a, wfv R v := by
  cases a with | mk l => simp [wfA, wfL_iff]

theorem renFn_ext {R R' : Map} (h : R.ext R') {f : Fn} (hf : wfFn R f) : renFn R' f = renFn R f ∧ wfFn R' f := by
  cases f <;> simp_all [renFn, wfFn]
  exact ⟨Map.ext_b h hf, Map.ext_isSome h hf⟩

mutual
theorem ren_ext {R R' : Map} (h : R.ext R') : ∀ v : Value, wfv R v → ren R' v = ren R v ∧ wfv R' v
  | .pointer (some a), hw => by simp only [wfv] at hw; simp [ren, wfv, Map.ext_b h hw.1, Map.ext_isSome h hw.1, hw.2]
  | .slice (some a) _ _, hw => by simp only [wfv] at hw; simp [ren, wfv, Map.ext_b h hw.1, Map.ext_d h hw.1, Map.ext_isSome h hw.1, hw.2]
  | .map (some r), hw => by simp only [wfv] at hw; simp [ren, wfv, Map.ext_b h hw, Map.ext_isSome h hw]
  | .func fn fs cs, hw => by
    simp only [wfv] at hw
    have h1 := renFn_ext h hw.1
    have h2 := renA_ext h fs hw.2.1
    have h3 := renA_ext h cs hw.2.2
    simp [ren, wfv, h1, h2, h3]
  | .iface t v, hw => by simp only [wfv] at hw; have h1 := ren_ext h v hw; simp [ren, wfv, h1]
  | .agg cs, hw => by simp only [wfv] at hw; have h1 := renA_ext h cs hw; simp [ren, wfv, h1]
  | .tuple cs, hw => by simp only [wfv] at hw; have h1 := renA_ext h cs hw; simp [ren, wfv, h1]
  | .pointer none, _ => by simp [ren, wfv]
  | .slice none _ _, _ => by simp [ren, wfv]
  | .map none, _ => by simp [ren, wfv]
  | .chan none, _ => by simp [ren, wfv]
  | .chan (some _), hw => by simp [wfv] at hw
  | .bool _, _ => by simp [ren, wfv]
  | .int _ _, _ => by simp [ren, wfv]
  | .float _ _, _ => by simp [ren, wfv]
  | .complex _ _ _, _ => by simp [ren, wfv]
  | .string _, _ => by simp [ren, wfv]
  | .nilFunc, _ => by simp [ren, wfv]
  | .nilIface, _ => by simp [ren, wfv]
theorem renA_ext {R R' : Map} (h : R.ext R') : ∀ a : Array Value, wfA R a → renA R' a = renA R a ∧ wfA R' a
  | ⟨l⟩, hw => by simp only [wfA] at hw; have h1 := renL_ext h l hw; simp [renA, wfA, h1]
theorem renL_ext {R R' : Map} (h : R.ext R') : ∀ l : List Value, wfL R l → renL R' l = renL R l ∧ wfL R' l
  | [], _ => by simp [renL, wfL]
  | v :: l, hw => by
    simp only [wfL] at hw
    have h1 := ren_ext h v hw.1
    have h2 := renL_ext h l hw.2
    simp [renL, wfL, h1, h2]
end

/-- A value without an address: the renaming leaves it as it is. -/
def plainFn : Fn → Bool
  | .yield _ => false
  | _ => true
mutual
def plain : Value → Bool
  | .pointer (some _) => false
  | .slice (some _) _ _ => false
  | .map (some _) => false
  | .chan (some _) => false
  | .func fn fs cs => plainFn fn && (plainA fs && plainA cs)
  | .iface _ v => plain v
  | .agg cs => plainA cs
  | .tuple vs => plainA vs
  | _ => true
def plainA : Array Value → Bool
  | ⟨l⟩ => plainL l
def plainL : List Value → Bool
  | [] => true
  | v :: l => plain v && plainL l
end
theorem plainFn_ren {R : Map} {f : Fn} (h : plainFn f = true) : renFn R f = f ∧ wfFn R f := by
  cases f <;> simp_all [renFn, wfFn, plainFn]
mutual
theorem plain_ren (R : Map) : ∀ v : Value, plain v = true → ren R v = v ∧ wfv R v
  | .pointer (some a), hw => by simp [plain] at hw
  | .slice (some a) _ _, hw => by simp [plain] at hw
  | .map (some r), hw => by simp [plain] at hw
  | .func fn fs cs, hw => by
    simp only [plain, Bool.and_eq_true] at hw
    have h1 := plainFn_ren (R := R) hw.1
    have h2 := plainA_ren R fs hw.2.1
    have h3 := plainA_ren R cs hw.2.2
    simp [ren, wfv, h1, h2, h3]
  | .iface t v, hw => by simp only [plain] at hw; have h1 := plain_ren R v hw; simp [ren, wfv, h1]
  | .agg cs, hw => by simp only [plain] at hw; have h1 := plainA_ren R cs hw; simp [ren, wfv, h1]
  | .tuple cs, hw => by simp only [plain] at hw; have h1 := plainA_ren R cs hw; simp [ren, wfv, h1]
  | .pointer none, _ => by simp [ren, wfv]
  | .slice none _ _, _ => by simp [ren, wfv]
  | .map none, _ => by simp [ren, wfv]
  | .chan none, _ => by simp [ren, wfv]
  | .chan (some _), hw => by simp [plain] at hw
  | .bool _, _ => by simp [ren, wfv]
  | .int _ _, _ => by simp [ren, wfv]
  | .float _ _, _ => by simp [ren, wfv]
  | .complex _ _ _, _ => by simp [ren, wfv]
  | .string _, _ => by simp [ren, wfv]
  | .nilFunc, _ => by simp [ren, wfv]
  | .nilIface, _ => by simp [ren, wfv]
theorem plainA_ren (R : Map) : ∀ a : Array Value, plainA a = true → renA R a = a ∧ wfA R a
  | ⟨l⟩, hw => by simp only [plainA] at hw; have h1 := plainL_ren R l hw; simp [renA, wfA, h1]
theorem plainL_ren (R : Map) : ∀ l : List Value, plainL l = true → renL R l = l ∧ wfL R l
  | [], _ => by simp [renL, wfL]
  | v :: l, hw => by
    simp only [plainL, Bool.and_eq_true] at hw
    have h1 := plain_ren R v hw.1
    have h2 := plainL_ren R l hw.2
    simp [renL, wfL, h1, h2]
end
end Go.Proofs.YtedfhallhpkkhaaGreatDoor.X
/- A local heap (a tree of blocks), its relation to the model's heap under a renaming, and what a step may do to both. Plain lemmas; no program. -/
namespace Go.Proofs.YtedfhallhpkkhaaGreatDoor.X
open Go
noncomputable section

inductive T (α : Type) where
  | nil
  | node (l : T α) (v : Option α) (r : T α)

variable {α : Type}
/- (By the recursors themselves: the kernel runs these.) -/
noncomputable def T.get (t : T α) : Nat → Option α :=
  T.rec (motive := fun _ => Nat → Option α) (fun _ => none)
    (fun _ v _ gl gr k => Nat.rec (motive := fun _ => Option α) v (fun j _ => Nat.rec (motive := fun _ => Option α) (gl (Nat.div j 2)) (fun _ _ => gr (Nat.div j 2)) (Nat.mod j 2)) k) t
noncomputable def T.setIn (n : Nat) (x : Option α) : T α → Nat → T α :=
  Nat.rec (motive := fun _ => T α → Nat → T α) (fun t _ => t)
    (fun _ ih t k => T.rec (motive := fun _ => T α)
      (Nat.rec (motive := fun _ => T α) (T.node T.nil x T.nil) (fun j _ => Nat.rec (motive := fun _ => T α) (T.node (ih T.nil (Nat.div j 2)) none T.nil) (fun _ _ => T.node T.nil none (ih T.nil (Nat.div j 2))) (Nat.mod j 2)) k)
      (fun l v r _ _ => Nat.rec (motive := fun _ => T α) (T.node l x r) (fun j _ => Nat.rec (motive := fun _ => T α) (T.node (ih l (Nat.div j 2)) v r) (fun _ _ => T.node l v (ih r (Nat.div j 2))) (Nat.mod j 2)) k) t) n
noncomputable def T.set (t : T α) (k : Nat) (x : Option α) : T α := T.setIn (Nat.succ k) x t k

theorem T.get_nil (k : Nat) : (T.nil : T α).get k = none := rfl
theorem T.get_zero (l : T α) (v : Option α) (r : T α) : (T.node l v r).get 0 = v := rfl
theorem T.get_odd (l : T α) (v : Option α) (r : T α) (j : Nat) : (T.node l v r).get (2 * j + 1) = l.get j := by
  show Nat.rec (motive := fun _ => Option α) (l.get (Nat.div (2 * j) 2)) (fun _ _ => r.get (Nat.div (2 * j) 2)) (Nat.mod (2 * j) 2) = _
  have h1 : Nat.mod (2 * j) 2 = 0 := by show (2 * j) % 2 = 0; omega
  have h2 : Nat.div (2 * j) 2 = j := by show (2 * j) / 2 = j; omega
  rw [h1, h2]
  rfl
theorem T.get_even (l : T α) (v : Option α) (r : T α) (j : Nat) : (T.node l v r).get (2 * j + 2) = r.get j := by
  show Nat.rec (motive := fun _ => Option α) (l.get (Nat.div (2 * j + 1) 2)) (fun _ _ => r.get (Nat.div (2 * j + 1) 2)) (Nat.mod (2 * j + 1) 2) = _
  have h1 : Nat.mod (2 * j + 1) 2 = 0 + 1 := by show (2 * j + 1) % 2 = 0 + 1; omega
  have h2 : Nat.div (2 * j + 1) 2 = j := by show (2 * j + 1) / 2 = j; omega
  rw [h1, h2]
theorem split3 (k : Nat) : k = 0 ∨ (∃ j, k = 2 * j + 1) ∨ ∃ j, k = 2 * j + 2 := by
  rcases Nat.eq_zero_or_pos k with h | h
  · exact .inl h
  · by_cases h2 : k % 2 = 1
    · exact .inr (.inl ⟨k / 2, by omega⟩)
    · exact .inr (.inr ⟨k / 2 - 1, by omega⟩)
theorem T.setIn_zero (n : Nat) (x : Option α) (t : T α) : ∃ l v r, T.setIn (n + 1) x t 0 = T.node l x r ∧ (∀ j, t.get (2 * j + 1) = l.get j) ∧ (∀ j, t.get (2 * j + 2) = r.get j) ∧ t.get 0 = v := by
  cases t with
  | nil => exact ⟨.nil, none, .nil, rfl, fun _ => rfl, fun _ => rfl, rfl⟩
  | node l v r => exact ⟨l, v, r, rfl, fun j => T.get_odd l v r j, fun j => T.get_even l v r j, rfl⟩
theorem T.setIn_odd (n : Nat) (x : Option α) (t : T α) (j : Nat) : ∃ l v r, T.setIn (n + 1) x t (2 * j + 1) = T.node (T.setIn n x l j) v r ∧ (∀ j, t.get (2 * j + 1) = l.get j) ∧ (∀ j, t.get (2 * j + 2) = r.get j) ∧ t.get 0 = v := by
  have h1 : Nat.mod (2 * j) 2 = 0 := by show (2 * j) % 2 = 0; omega
  have h2 : Nat.div (2 * j) 2 = j := by show (2 * j) / 2 = j; omega
  cases t with
  | nil =>
    refine ⟨.nil, none, .nil, ?_, fun _ => rfl, fun _ => rfl, rfl⟩
    show Nat.rec (motive := fun _ => T α) (T.node (T.setIn n x .nil (Nat.div (2 * j) 2)) none T.nil) (fun _ _ => T.node T.nil none (T.setIn n x .nil (Nat.div (2 * j) 2))) (Nat.mod (2 * j) 2) = _
    rw [h1, h2]
    rfl
  | node l v r =>
    refine ⟨l, v, r, ?_, fun j => T.get_odd l v r j, fun j => T.get_even l v r j, rfl⟩
    show Nat.rec (motive := fun _ => T α) (T.node (T.setIn n x l (Nat.div (2 * j) 2)) v r) (fun _ _ => T.node l v (T.setIn n x r (Nat.div (2 * j) 2))) (Nat.mod (2 * j) 2) = _
    rw [h1, h2]
    rfl
theorem T.setIn_even (n : Nat) (x : Option α) (t : T α) (j : Nat) : ∃ l v r, T.setIn (n + 1) x t (2 * j + 2) = T.node l v (T.setIn n x r j) ∧ (∀ j, t.get (2 * j + 1) = l.get j) ∧ (∀ j, t.get (2 * j + 2) = r.get j) ∧ t.get 0 = v := by
  have h1 : Nat.mod (2 * j + 1) 2 = 0 + 1 := by show (2 * j + 1) % 2 = 0 + 1; omega
  have h2 : Nat.div (2 * j + 1) 2 = j := by show (2 * j + 1) / 2 = j; omega
  cases t with
  | nil =>
    refine ⟨.nil, none, .nil, ?_, fun _ => rfl, fun _ => rfl, rfl⟩
    show Nat.rec (motive := fun _ => T α) (T.node (T.setIn n x .nil (Nat.div (2 * j + 1) 2)) none T.nil) (fun _ _ => T.node T.nil none (T.setIn n x .nil (Nat.div (2 * j + 1) 2))) (Nat.mod (2 * j + 1) 2) = _
    rw [h1, h2]
  | node l v r =>
    refine ⟨l, v, r, ?_, fun j => T.get_odd l v r j, fun j => T.get_even l v r j, rfl⟩
    show Nat.rec (motive := fun _ => T α) (T.node (T.setIn n x l (Nat.div (2 * j + 1) 2)) v r) (fun _ _ => T.node l v (T.setIn n x r (Nat.div (2 * j + 1) 2))) (Nat.mod (2 * j + 1) 2) = _
    rw [h1, h2]
theorem T.get_setIn (x : Option α) : ∀ (n : Nat) (t : T α) (k j : Nat), k < n → (T.setIn n x t k).get j = if j = k then x else t.get j := by
  intro n
  induction n with
  | zero => intro t k j h; omega
  | succ n ih =>
    intro t k j h
    rcases split3 k with rfl | ⟨k', rfl⟩ | ⟨k', rfl⟩
    · obtain ⟨l, v, r, h1, h2, h3, h4⟩ := T.setIn_zero n x t
      rw [h1]
      rcases split3 j with rfl | ⟨j', rfl⟩ | ⟨j', rfl⟩
      · rfl
      · rw [T.get_odd, if_neg (by omega), h2]
      · rw [T.get_even, if_neg (by omega), h3]
    · obtain ⟨l, v, r, h1, h2, h3, h4⟩ := T.setIn_odd n x t k'
      rw [h1]
      rcases split3 j with rfl | ⟨j', rfl⟩ | ⟨j', rfl⟩
      · rw [T.get_zero, if_neg (by omega), h4]
      · rw [T.get_odd, ih _ _ _ (by omega), h2]
        by_cases he : j' = k'
        · rw [if_pos he, if_pos (by omega)]
        · rw [if_neg he, if_neg (by omega)]
      · rw [T.get_even, if_neg (by omega), h3]
    · obtain ⟨l, v, r, h1, h2, h3, h4⟩ := T.setIn_even n x t k'
      rw [h1]
      rcases split3 j with rfl | ⟨j', rfl⟩ | ⟨j', rfl⟩
      · rw [T.get_zero, if_neg (by omega), h4]
      · rw [T.get_odd, if_neg (by omega), h2]
      · rw [T.get_even, ih _ _ _ (by omega), h3]
        by_cases he : j' = k'
        · rw [if_pos he, if_pos (by omega)]
        · rw [if_neg he, if_neg (by omega)]
theorem T.get_set (t : T α) (k j : Nat) (x : Option α) : (t.set k x).get j = if j = k then x else t.get j :=
  T.get_setIn x (k + 1) t k j (by omega)

/-- The record of a range over a function, its temporaries in a tree. -/
structure LLoop where
  state : LoopState
  pending : Option Code
  tmps : T Value
  n : Nat
  params : Array Tmp
  assign : Code
  body : Code
  defers : Nat

/-- What a local block holds: cells (e > 0: behind them there may be room for more elements of e cells each), a map, or the record of a range over a function. -/
inductive LO where
  | cells (c : List Value) (e : Nat)
  | map (es : List MapEntry) (clock : Nat)
  | loop (l : LLoop)
  | obj (o : Obj)

structure LH where
  t : T LO
  next : Nat

def LH.get (h : LH) (i : Nat) : Option LO := h.t.get i
def LH.put (h : LH) (i : Nat) (o : LO) : LH := match h with | ⟨t, n⟩ => ⟨t.set i (some o), n⟩
def LH.kill (h : LH) (i : Nat) : LH := match h with | ⟨t, n⟩ => ⟨t.set i none, n⟩
def LH.add (h : LH) (o : LO) : LH := match h with | ⟨t, n⟩ => ⟨t.set n (some o), n + 1⟩

theorem LH.get_put (h : LH) (i j : Nat) (o : LO) : (h.put i o).get j = if j = i then some o else h.get j := T.get_set _ _ _ _
theorem LH.get_kill (h : LH) (i j : Nat) : (h.kill i).get j = if j = i then none else h.get j := T.get_set _ _ _ _
theorem LH.get_add (h : LH) (j : Nat) (o : LO) : (h.add o).get j = if j = h.next then some o else h.get j := T.get_set _ _ _ _

def renE (R : Map) (e : MapEntry) : MapEntry := { e with key := ren R e.key, val := ren R e.val }
def renObj (R : Map) : Obj → Obj
  | .mapIter (some m) a b c => .mapIter (some (R.b m)) a b c
  | o => o
def wfObj (R : Map) : Obj → Prop
  | .mapIter (some m) _ _ _ => (R m).isSome = true
  | .mapIter none _ _ _ => True
  | .deferred (some []) => True
  | .deferred none => True
  | _ => False

/-- Temporaries, locally in a tree. -/
def TRel (R : Map) (t : T Value) (n : Nat) (ta : Array Value) : Prop :=
  ta.size = n ∧ (∀ k : Nat, k < n → ta[k]? = some (ren R ((t.get k).getD undef))) ∧ (∀ (k : Nat) (v : Value), t.get k = some v → k < n ∧ wfv R v)

/-- The real block x is what the local block i holds. -/
def ORel (R : Map) (i : Nat) : LO → Option Obj → Prop
  | .cells c e, x => ∃ cs t f, x = some (.cells cs t f) ∧ c.length + R.d i * e ≤ cs.size ∧ (∀ (k : Nat) (v : Value), c[k]? = some v → cs[k]? = some (ren R v)) ∧
      (∀ k : Nat, k < c.length + R.d i * e → ¬ (f.1 ≤ k ∧ k < f.2)) ∧ (e = 0 → R.d i = 0) ∧ wfL R c
  | .map es clock, x => x = some (.map (es.map (renE R)).toArray clock) ∧ ∀ e ∈ es, wfv R e.key ∧ wfv R e.val
  | .loop l, x => ∃ f ta, x = some (.loop { state := l.state, pending := l.pending, fn := f, tmps := ta, params := l.params, assign := l.assign, body := l.body, defers := R.b l.defers }) ∧
      TRel R l.tmps l.n ta ∧ (R l.defers).isSome = true
  | .obj o, x => x = some (renObj R o) ∧ wfObj R o

/-- What block 0 holds: the constants of SHA-256. -/
def gconst : List Value := [.int .u32 1116352408, .int .u32 1899447441, .int .u32 3049323471, .int .u32 3921009573, .int .u32 961987163, .int .u32 1508970993, .int .u32 2453635748, .int .u32 2870763221, .int .u32 3624381080, .int .u32 310598401, .int .u32 607225278, .int .u32 1426881987, .int .u32 1925078388, .int .u32 2162078206, .int .u32 2614888103, .int .u32 3248222580, .int .u32 3835390401, .int .u32 4022224774, .int .u32 264347078, .int .u32 604807628, .int .u32 770255983, .int .u32 1249150122, .int .u32 1555081692, .int .u32 1996064986, .int .u32 2554220882, .int .u32 2821834349, .int .u32 2952996808, .int .u32 3210313671, .int .u32 3336571891, .int .u32 3584528711, .int .u32 113926993, .int .u32 338241895, .int .u32 666307205, .int .u32 773529912, .int .u32 1294757372, .int .u32 1396182291, .int .u32 1695183700, .int .u32 1986661051, .int .u32 2177026350, .int .u32 2456956037, .int .u32 2730485921, .int .u32 2820302411, .int .u32 3259730800, .int .u32 3345764771, .int .u32 3516065817, .int .u32 3600352804, .int .u32 4094571909, .int .u32 275423344, .int .u32 430227734, .int .u32 506948616, .int .u32 659060556, .int .u32 883997877, .int .u32 958139571, .int .u32 1322822218, .int .u32 1537002063, .int .u32 1747873779, .int .u32 1955562222, .int .u32 2024104815, .int .u32 2227730452, .int .u32 2361852424, .int .u32 2428436474, .int .u32 2756734187, .int .u32 3204031479, .int .u32 3329325298]
theorem gconst_plain : ∀ v ∈ gconst, plain v = true := by
  unfold gconst
  intro v hv
  simp only [List.mem_cons, List.not_mem_nil, or_false] at hv
  rcases hv with rfl | rfl | rfl | rfl | rfl | rfl | rfl | rfl | rfl | rfl | rfl | rfl | rfl | rfl | rfl | rfl | rfl | rfl | rfl | rfl | rfl | rfl | rfl | rfl | rfl | rfl | rfl | rfl | rfl | rfl | rfl | rfl | rfl | rfl | rfl | rfl | rfl | rfl | rfl | rfl | rfl | rfl | rfl | rfl | rfl | rfl | rfl | rfl | rfl | rfl | rfl | rfl | rfl | rfl | rfl | rfl | rfl | rfl | rfl | rfl | rfl | rfl | rfl | rfl <;> rfl
def GOk (H : Array Obj) : Prop := ∃ cs t f, H[0]? = some (.cells cs t f) ∧ ∀ (k : Nat) (v : Value), gconst[k]? = some v → cs[k]? = some v
theorem GOk.pos {H : Array Obj} (g : GOk H) : 0 < H.size := by
  obtain ⟨cs, t, f, h, _⟩ := g
  rcases Nat.eq_zero_or_pos H.size with h0 | h0
  · rw [Array.getElem?_eq_none (by omega)] at h; cases h
  · exact h0
theorem GOk.of {H H' : Array Obj} (g : GOk H) (h : H'[0]? = H[0]?) : GOk H' := by unfold GOk; rw [h]; exact g
structure HRel (R : Map) (h : LH) (H : Array Obj) : Prop where
  ok : ∀ i o, h.get i = some o → (R i).isSome = true ∧ ORel R i o H[R.b i]?
  inj : ∀ i j oi oj, h.get i = some oi → h.get j = some oj → R.b i = R.b j → i = j
  fresh : ∀ i, h.next ≤ i → R i = none
  glob : R 0 = some (0, 0) ∧ GOk H ∧ ∀ i o, h.get i = some o → R.b i ≠ 0

theorem HRel.get_fresh {R : Map} {h : LH} {H : Array Obj} (r : HRel R h H) {i : Nat} (hi : h.next ≤ i) : h.get i = none := by
  cases hg : h.get i with
  | none => rfl
  | some o => have := (r.ok i o hg).1; rw [r.fresh i hi] at this; simp at this
theorem HRel.lt {R : Map} {h : LH} {H : Array Obj} (r : HRel R h H) {i : Nat} (hi : (R i).isSome = true) : i < h.next := by
  rcases Nat.lt_or_ge i h.next with h1 | h1
  · exact h1
  · rw [r.fresh i h1] at hi; simp at hi

theorem renE_ext {R R' : Map} (h : R.ext R') {e : MapEntry} (hw : wfv R e.key ∧ wfv R e.val) : renE R' e = renE R e := by
  unfold renE; rw [(ren_ext h _ hw.1).1, (ren_ext h _ hw.2).1]
theorem renObj_ext {R R' : Map} (h : R.ext R') {o : Obj} (hw : wfObj R o) : renObj R' o = renObj R o ∧ wfObj R' o := by
  cases o with
  | mapIter m a b c => cases m with
    | none => simp [renObj, wfObj]
    | some m => simp only [wfObj] at hw; simp [renObj, wfObj, Map.ext_b h hw, Map.ext_isSome h hw]
  | deferred d => cases d with
    | none => simp [renObj, wfObj]
    | some l => cases l with
      | nil => simp [renObj, wfObj]
      | cons => simp [wfObj] at hw
  | _ => simp [wfObj] at hw
theorem wf_undef (R : Map) : wfv R undef := trivial
theorem TRel.ext {R R' : Map} (h : R.ext R') {t : T Value} {n : Nat} {ta : Array Value} (r : TRel R t n ta) : TRel R' t n ta := by
  obtain ⟨h1, h2, h3⟩ := r
  refine ⟨h1, fun k hk => ?_, fun k v hv => ⟨(h3 k v hv).1, (ren_ext h v (h3 k v hv).2).2⟩⟩
  rw [h2 k hk]
  cases hg : t.get k with
  | none => rw [Option.getD_none, (ren_ext h undef (wf_undef R)).1]
  | some v => rw [Option.getD_some, (ren_ext h v (h3 k v hg).2).1]
theorem ORel.ext {R R' : Map} (h : R.ext R') {i : Nat} {o : LO} {x : Option Obj} (hi : (R i).isSome = true) (r : ORel R i o x) : ORel R' i o x := by
  cases o with
  | cells c e =>
    obtain ⟨cs, t, f, h1, h2, h3, h4, h5, h6⟩ := r
    refine ⟨cs, t, f, h1, by rw [Map.ext_d h hi]; exact h2, fun k v hk => ?_, by rw [Map.ext_d h hi]; exact h4, by rw [Map.ext_d h hi]; exact h5, (renL_ext h c h6).2⟩
    rw [(ren_ext h v ((wfL_iff _ _).1 h6 v (List.mem_of_getElem? hk))).1]
    exact h3 k v hk
  | map es clock =>
    obtain ⟨h1, h2⟩ := r
    refine ⟨?_, fun e he => ⟨(ren_ext h _ (h2 e he).1).2, (ren_ext h _ (h2 e he).2).2⟩⟩
    rw [h1, List.map_congr_left fun e he => renE_ext h (h2 e he)]
  | loop l =>
    obtain ⟨f, ta, h1, h2, h3⟩ := r
    exact ⟨f, ta, by rw [h1, Map.ext_b h h3], h2.ext h, Map.ext_isSome h h3⟩
  | obj o =>
    obtain ⟨h1, h2⟩ := r
    exact ⟨by rw [h1, (renObj_ext h h2).1], (renObj_ext h h2).2⟩

/-- What a step of the local heap and of the world keeps. -/
structure Goes (R : Map) (h : LH) (w : World) (R' : Map) (h' : LH) (w' : World) : Prop where
  ext : R.ext R'
  old : ∀ i, i < h.next → R' i = R i
  rel : HRel R' h' w'.heap
  next : h.next ≤ h'.next
  size : w.heap.size ≤ w'.heap.size
  os : w'.os = w.os
  tape : w'.tape = w.tape
  output : w'.output = w.output
  frame : ∀ b, b < w.heap.size → (∀ i o, h.get i = some o → R.b i ≠ b) → w'.heap[b]? = w.heap[b]?
  img : ∀ i o, h'.get i = some o → (∃ j o', h.get j = some o' ∧ R.b j = R'.b i) ∨ w.heap.size ≤ R'.b i

theorem Goes.refl {R : Map} {h : LH} {w : World} (r : HRel R h w.heap) : Goes R h w R h w :=
  ⟨Map.ext_refl R, fun _ _ => rfl, r, Nat.le_refl _, Nat.le_refl _, rfl, rfl, rfl, fun _ _ _ => rfl, fun i o hi => .inl ⟨i, o, hi, rfl⟩⟩
theorem Goes.trans {R R' R'' : Map} {h h' h'' : LH} {w w' w'' : World} (a : Goes R h w R' h' w') (b : Goes R' h' w' R'' h'' w'') : Goes R h w R'' h'' w'' := by
  refine ⟨Map.ext_trans a.ext b.ext, fun i hi => (b.old i (Nat.lt_of_lt_of_le hi a.next)).trans (a.old i hi), b.rel, Nat.le_trans a.next b.next, Nat.le_trans a.size b.size, b.os.trans a.os, b.tape.trans a.tape, b.output.trans a.output, ?_, ?_⟩
  · intro k hk hno
    rw [b.frame k (Nat.lt_of_lt_of_le hk a.size) ?_, a.frame k hk hno]
    intro i o hi e
    rcases a.img i o hi with ⟨j, o', hj, hb⟩ | hge
    · exact hno j o' hj (hb.trans e)
    · omega
  · intro i o hi
    rcases b.img i o hi with ⟨j, o', hj, hb⟩ | hge
    · rcases a.img j o' hj with ⟨j', o'', hj', hb'⟩ | hge
      · exact .inl ⟨j', o'', hj', hb'.trans hb⟩
      · exact .inr (by omega)
    · exact .inr (Nat.le_trans a.size hge)
/-- A draw. -/
theorem Goes.drew {R : Map} {h : LH} {w : World} (r : HRel R h w.heap) (n : Nat) : Goes R h w R h { w with drawn := n } :=
  ⟨Map.ext_refl R, fun _ _ => rfl, r, Nat.le_refl _, Nat.le_refl _, rfl, rfl, rfl, fun _ _ _ => rfl, fun i o hi => .inl ⟨i, o, hi, rfl⟩⟩

def Map.put (R : Map) (i b d : Nat) : Map := fun j => if j = i then some (b, d) else R j
theorem Map.put_ext {R : Map} {i b d : Nat} (hi : R i = none) : R.ext (R.put i b d) := by
  intro j x hx
  unfold Map.put
  by_cases h : j = i
  · subst h; rw [hi] at hx; cases hx
  · rw [if_neg h]; exact hx
theorem Map.put_b (R : Map) (i b d : Nat) : (R.put i b d).b i = b := by simp [Map.put, Map.b]
theorem Map.put_d (R : Map) (i b d : Nat) : (R.put i b d).d i = d := by simp [Map.put, Map.d]
theorem Map.put_isSome (R : Map) (i b d : Nat) : ((R.put i b d) i).isSome = true := by simp [Map.put]

/-- A new block. -/
theorem Goes.add {R : Map} {h : LH} {w : World} (r : HRel R h w.heap) {o : LO} {x : Obj} {d : Nat} (hx : ORel (R.put h.next w.heap.size d) h.next o (some x)) :
    Goes R h w (R.put h.next w.heap.size d) (h.add o) { w with heap := w.heap.push x } := by
  have hext : R.ext (R.put h.next w.heap.size d) := Map.put_ext (r.fresh _ (Nat.le_refl _))
  have hold : ∀ i o, h.get i = some o → R.b i < w.heap.size := by
    intro i o' hi
    obtain ⟨_, h2⟩ := r.ok i o' hi
    rcases Nat.lt_or_ge (R.b i) w.heap.size with h3 | h3
    · exact h3
    · rw [Array.getElem?_eq_none h3] at h2
      cases o' with
      | cells => obtain ⟨_, _, _, h4, _⟩ := h2; cases h4
      | map => simp only [ORel] at h2; cases h2.1
      | loop => obtain ⟨_, _, h4, _⟩ := h2; cases h4
      | obj => simp only [ORel] at h2; cases h2.1
  have hne : ∀ i o, h.get i = some o → i ≠ h.next := by
    intro i o' hi e; subst e; rw [r.get_fresh (Nat.le_refl _)] at hi; cases hi
  have hb : ∀ i o, h.get i = some o → (R.put h.next w.heap.size d).b i = R.b i := fun i o' hi => Map.ext_b hext (r.ok i o' hi).1
  have hnext : 0 < h.next := by
    rcases Nat.eq_zero_or_pos h.next with h0 | h0
    · have := r.fresh 0 (by omega); rw [r.glob.1] at this; cases this
    · exact h0
  have hpos := r.glob.2.1.pos
  refine ⟨hext, fun i hi => by unfold Map.put; rw [if_neg (by omega)], ⟨?_, ?_, ?_, hext 0 _ r.glob.1, r.glob.2.1.of (by rw [Array.getElem?_push, if_neg (by omega)]), ?_⟩, Nat.le_succ _, by simp, rfl, rfl, rfl, ?_, ?_⟩
  · intro i o' hi
    rw [LH.get_add] at hi
    by_cases he : i = h.next
    · subst he
      simp only [if_true, Option.some.injEq] at hi
      subst hi
      refine ⟨Map.put_isSome _ _ _ _, ?_⟩
      rw [Map.put_b]
      simpa using hx
    · rw [if_neg he] at hi
      obtain ⟨h1, h2⟩ := r.ok i o' hi
      refine ⟨Map.ext_isSome hext h1, ?_⟩
      rw [hb i o' hi, Array.getElem?_push, if_neg (by have := hold i o' hi; omega)]
      exact h2.ext hext h1
  · intro i j oi oj hi hj e
    rw [LH.get_add] at hi hj
    by_cases h1 : i = h.next
    · by_cases h2 : j = h.next
      · rw [h1, h2]
      · rw [if_neg h2] at hj
        rw [h1, Map.put_b, hb j oj hj] at e
        have := hold j oj hj
        omega
    · rw [if_neg h1] at hi
      by_cases h2 : j = h.next
      · rw [h2, Map.put_b, hb i oi hi] at e
        have := hold i oi hi
        omega
      · rw [if_neg h2] at hj
        rw [hb i oi hi, hb j oj hj] at e
        exact r.inj i j oi oj hi hj e
  · intro i hi
    have hi' : h.next + 1 ≤ i := hi
    unfold Map.put
    rw [if_neg (by omega)]
    exact r.fresh i (by omega)
  · intro i o' hi
    rw [LH.get_add] at hi
    by_cases he : i = h.next
    · subst he; rw [Map.put_b]; omega
    · rw [if_neg he] at hi; rw [hb i o' hi]; exact r.glob.2.2 i o' hi
  · intro b hb' _
    rw [Array.getElem?_push, if_neg (by omega)]
  · intro i o' hi
    rw [LH.get_add] at hi
    by_cases he : i = h.next
    · subst he; rw [Map.put_b]; exact .inr (Nat.le_refl _)
    · rw [if_neg he] at hi
      exact .inl ⟨i, o', hi, (hb i o' hi).symm⟩

/-- A block that is forgotten. -/
theorem Goes.kill {R : Map} {h : LH} {w : World} (r : HRel R h w.heap) (i : Nat) : Goes R h w R (h.kill i) w := by
  have hk : ∀ j o, (h.kill i).get j = some o → h.get j = some o := by
    intro j o hj
    rw [LH.get_kill] at hj
    by_cases he : j = i
    · rw [if_pos he] at hj; cases hj
    · rw [if_neg he] at hj; exact hj
  exact ⟨Map.ext_refl R, fun _ _ => rfl, ⟨fun j o hj => r.ok j o (hk j o hj), fun a b oa ob ha hb e => r.inj a b oa ob (hk a oa ha) (hk b ob hb) e, r.fresh, r.glob.1, r.glob.2.1, fun j o hj => r.glob.2.2 j o (hk j o hj)⟩, Nat.le_refl _, Nat.le_refl _, rfl, rfl, rfl,
    fun _ _ _ => rfl, fun j o hj => .inl ⟨j, o, hk j o hj, rfl⟩⟩

/-- A block whose content is changed. -/
theorem Goes.put {R : Map} {h : LH} {w : World} (r : HRel R h w.heap) {i : Nat} {o o' : LO} (hi : h.get i = some o) {H : Array Obj} (hsz : H.size = w.heap.size)
    (hat : ORel R i o' H[R.b i]?) (helse : ∀ b, b ≠ R.b i → H[b]? = w.heap[b]?) : Goes R h w R (h.put i o') { w with heap := H } := by
  refine ⟨Map.ext_refl R, fun _ _ => rfl, ⟨?_, ?_, r.fresh, r.glob.1, r.glob.2.1.of (helse 0 fun e => r.glob.2.2 i o hi e.symm), ?_⟩, Nat.le_refl _, by simp [hsz], rfl, rfl, rfl, ?_, ?_⟩
  · intro j oj hj
    rw [LH.get_put] at hj
    by_cases he : j = i
    · subst he
      simp only [if_true, Option.some.injEq] at hj
      subst hj
      exact ⟨(r.ok j o hi).1, hat⟩
    · rw [if_neg he] at hj
      obtain ⟨h1, h2⟩ := r.ok j oj hj
      refine ⟨h1, ?_⟩
      show ORel R j oj H[R.b j]?
      rw [helse _ (fun e => he (r.inj j i oj o hj hi e))]
      exact h2
  · intro a b oa ob ha hb e
    rw [LH.get_put] at ha hb
    have ha' : ∃ x, h.get a = some x := by
      by_cases he : a = i
      · exact ⟨o, he ▸ hi⟩
      · rw [if_neg he] at ha; exact ⟨oa, ha⟩
    have hb' : ∃ x, h.get b = some x := by
      by_cases he : b = i
      · exact ⟨o, he ▸ hi⟩
      · rw [if_neg he] at hb; exact ⟨ob, hb⟩
    obtain ⟨x, hx⟩ := ha'
    obtain ⟨y, hy⟩ := hb'
    exact r.inj a b x y hx hy e
  · intro a oa ha
    rw [LH.get_put] at ha
    by_cases he : a = i
    · rw [he]; exact r.glob.2.2 i o hi
    · rw [if_neg he] at ha; exact r.glob.2.2 a oa ha
  · intro b _ hno
    exact helse b (fun e => hno i o hi e.symm)
  · intro j oj hj
    rw [LH.get_put] at hj
    by_cases he : j = i
    · exact .inl ⟨i, o, hi, by rw [he]⟩
    · rw [if_neg he] at hj; exact .inl ⟨j, oj, hj, rfl⟩
end
end Go.Proofs.YtedfhallhpkkhaaGreatDoor.X
/- Operations of the model that read, make or write memory, done on the local heap, each shown to be what the model does on the real one. Any program. -/
namespace Go.Proofs.YtedfhallhpkkhaaGreatDoor.X
open Go
noncomputable section

/-- A computation that asks the program alone. -/
def runP {α : Type} (P : Program) : Sem α → Option α
  | .pure a => some a
  | .program k => runP P (k P)
  | .mark _ k => runP P k
  | _ => none
theorem runP_run {α : Type} {P : Program} {s : Sem α} {a : α} (h : runP P s = some a) (w : World) : s.run P w = .ok a w := by
  induction s with
  | pure b => simp only [runP, Option.some.injEq] at h; subst h; rfl
  | program k ih => simp only [runP] at h; simp only [Sem.run]; exact ih P h
  | mark m k ih => simp only [runP] at h; simp only [Sem.run]; exact ih h
  | _ => simp [runP] at h

/-- s gives what v stands for, and takes the one pair of heaps to the other. -/
def OpOk (P : Program) (R : Map) (h : LH) (w : World) (s : Sem Value) (v : Value) (h' : LH) : Prop :=
  ∃ R' w', s.run P w = .ok (ren R' v) w' ∧ wfv R' v ∧ Goes R h w R' h' w'

def cellsAt (h : LH) (i : Nat) : Option (List Value × Nat) :=
  match h.get i with
  | some (.cells c e) => some (c, e)
  | _ => none
theorem cellsAt_get {h : LH} {i : Nat} {c : List Value} {e : Nat} (hc : cellsAt h i = some (c, e)) : h.get i = some (.cells c e) := by
  unfold cellsAt at hc
  split at hc
  · rename_i c' e' hg
    simp only [Option.some.injEq, Prod.mk.injEq] at hc
    obtain ⟨rfl, rfl⟩ := hc
    exact hg
  · cases hc

/-- What the relation says of a block of cells. -/
theorem HRel.cells {R : Map} {h : LH} {w : World} (r : HRel R h w.heap) {i : Nat} {c : List Value} {e : Nat} (hc : cellsAt h i = some (c, e)) :
    ∃ cs t f, w.heap[R.b i]? = some (.cells cs t f) ∧ c.length + R.d i * e ≤ cs.size ∧ (∀ (k : Nat) (v : Value), c[k]? = some v → cs[k]? = some (ren R v)) ∧
      (∀ k : Nat, k < c.length + R.d i * e → ¬ (f.1 ≤ k ∧ k < f.2)) ∧ (e = 0 → R.d i = 0) ∧ wfL R c :=
  (r.ok i _ (cellsAt_get hc)).2
theorem HRel.cell {R : Map} {h : LH} {w : World} (r : HRel R h w.heap) {i : Nat} {c : List Value} {e : Nat} (hc : cellsAt h i = some (c, e)) {k : Nat} {v : Value} (hk : c[k]? = some v) :
    w.cell? ⟨R.b i, k, none⟩ = some (ren R v) := by
  obtain ⟨cs, t, f, h1, _, h3, _⟩ := r.cells hc
  unfold World.cell?
  simp [h1, h3 k v hk]
theorem HRel.notFrozen {R : Map} {h : LH} {w : World} (r : HRel R h w.heap) {i : Nat} {c : List Value} {e : Nat} (hc : cellsAt h i = some (c, e)) {k : Nat} (hk : k < c.length + R.d i * e) :
    w.frozen? ⟨R.b i, k, none⟩ = false := by
  obtain ⟨cs, t, f, h1, _, _, h4, _⟩ := r.cells hc
  unfold World.frozen?
  simp only [h1]
  have := h4 k hk
  simp only [Bool.and_eq_false_iff, decide_eq_false_iff_not]
  by_cases h5 : f.1 ≤ k
  · exact .inr (fun h6 => this ⟨h5, h6⟩)
  · exact .inl h5
theorem HRel.wf {R : Map} {h : LH} {w : World} (r : HRel R h w.heap) {i : Nat} {c : List Value} {e : Nat} (hc : cellsAt h i = some (c, e)) : wfL R c := by
  obtain ⟨_, _, _, _, _, _, _, _, h6⟩ := r.cells hc
  exact h6

/-! ### Load -/
def lload (P : Program) (h : LH) (t : TypeId) (x : Value) : Option Value :=
  match x with
  | .pointer (some a) =>
    match cellsAt h a.block with
    | some (c, _) =>
      match runP P (isAgg t) with
      | some true =>
        match P.info? t with
        | some i => if a.off + i.size ≤ c.length then some (.agg ⟨(c.drop a.off).take i.size⟩) else none
        | none => none
      | some false => c[a.off]?
      | none => none
    | none => if a.block = 0 then match runP P (isAgg t) with
      | some false => gconst[a.off]?
      | _ => none
      else none
  | _ => none
theorem addr_eta (a : Addr) (h : a.spot = none) : a = ⟨a.block, a.off, none⟩ := by cases a; simp_all
theorem lload_ok {P : Program} {R : Map} {h : LH} {w : World} {t : TypeId} {x v : Value} (r : HRel R h w.heap) (hx : wfv R x) (hv : lload P h t x = some v) :
    (Instr.loadAt t (ren R x)).run P w = .ok (ren R v) w ∧ wfv R v := by
  unfold lload at hv
  split at hv
  case h_2 => cases hv
  rename_i a
  simp only [wfv] at hx
  split at hv
  case h_2 =>
    split at hv
    case isFalse => cases hv
    rename_i h0
    split at hv
    case h_2 => cases hv
    rename_i hagg
    obtain ⟨hp, hw⟩ := plain_ren R v (gconst_plain v (List.mem_of_getElem? hv))
    have hb : R.b 0 = 0 := by simp [Map.b, r.glob.1]
    obtain ⟨cs, ty, f, hH, hcs⟩ := r.glob.2.1
    have hcell : w.cell? ⟨0, a.off, none⟩ = some v := by
      have := hcs _ _ hv
      simp [World.cell?, hH, this]
    refine ⟨?_, hw⟩
    rw [hp]
    simp [ren, h0, hb, hx.2, Instr.loadAt, Instr.sureAddr, loadVar, runP_run hagg w]
    rw [hcell]
  rename_i c e hc
  have hspot : (⟨R.b a.block, a.off, a.spot⟩ : Addr) = ⟨R.b a.block, a.off, none⟩ := by rw [hx.2]
  have hwf := (wfL_iff _ _).1 (r.wf hc)
  split at hv
  · rename_i hagg
    split at hv
    case h_2 => cases hv
    rename_i i hi
    split at hv
    case isFalse => cases hv
    rename_i hle
    simp only [Option.some.injEq] at hv
    subst hv
    have hl : (loadCells ⟨R.b a.block, a.off, none⟩ i.size).run P w = .ok (((c.drop a.off).take i.size).map (ren R)).toArray w := by
      have hlen : (((c.drop a.off).take i.size).map (ren R)).length = i.size := by simp; omega
      have := run_loadCells_list (P := P) w ⟨R.b a.block, a.off, none⟩ (((c.drop a.off).take i.size).map (ren R)) (fun j v hj => by
        rw [Addr.add_mid]
        rw [List.getElem?_map] at hj
        simp only [Option.map_eq_some_iff] at hj
        obtain ⟨u, hu, rfl⟩ := hj
        refine r.cell hc ?_
        rw [List.getElem?_take] at hu
        split at hu
        · rw [List.getElem?_drop] at hu; exact hu
        · cases hu)
      rw [hlen] at this
      exact this
    refine ⟨?_, ?_⟩
    · simp only [ren, hspot, Instr.loadAt, Instr.sureAddr, Sem.run_bind, Sem.run_pure, Result.andThen_ok, loadVar, runP_run hagg w, if_true, sizeOf, typeInfo, run_program, hi, hl]
      simp [renA, renL_eq]
    · simp only [wfv, wfA, wfL_iff]
      intro u hu
      exact hwf u (List.mem_of_mem_drop (List.mem_of_mem_take hu))
  · rename_i hagg
    refine ⟨?_, hwf v (List.mem_of_getElem? hv)⟩
    simp [ren, hspot, Instr.loadAt, Instr.sureAddr, loadVar, runP_run hagg w]
    rw [r.cell hc hv]
  · cases hv

/-! ### Store -/
def setRange : List Value → Nat → List Value → List Value
  | c, _, [] => c
  | [], _, _ => []
  | _ :: c, 0, v :: vs => v :: setRange c 0 vs
  | x :: c, o + 1, v :: vs => x :: setRange c o (v :: vs)
theorem setRange_length : ∀ (c : List Value) (o : Nat) (vs : List Value), (setRange c o vs).length = c.length
  | c, _, [] => by cases c <;> simp [setRange]
  | [], _, _ :: _ => by simp [setRange]
  | _ :: c, 0, v :: vs => by simp [setRange, setRange_length c 0 vs]
  | x :: c, o + 1, v :: vs => by simp [setRange, setRange_length c o (v :: vs)]
theorem setRange_get : ∀ (c : List Value) (o : Nat) (vs : List Value), o + vs.length ≤ c.length → ∀ k : Nat, (setRange c o vs)[k]? = if o ≤ k ∧ k < o + vs.length then vs[k - o]? else c[k]?
  | c, o, [], _, k => by
    have : ¬ (o ≤ k ∧ k < o + ([] : List Value).length) := by simp
    rw [if_neg this]
    cases c <;> simp [setRange]
  | [], o, v :: vs, h, k => by simp at h
  | x :: c, 0, v :: vs, h, k => by
    simp only [List.length_cons] at h
    have ih := setRange_get c 0 vs (by omega)
    cases k with
    | zero => simp [setRange]
    | succ k =>
      simp only [setRange, List.getElem?_cons_succ, ih k, List.length_cons]
      by_cases hk : k < vs.length
      · rw [if_pos ⟨by omega, by omega⟩, if_pos ⟨by omega, by omega⟩]; simp
      · rw [if_neg (by omega), if_neg (by omega)]
  | x :: c, o + 1, v :: vs, h, k => by
    simp only [List.length_cons] at h
    have ih := setRange_get c o (v :: vs) (by simp; omega)
    cases k with
    | zero => rw [if_neg (by omega)]; simp [setRange]
    | succ k =>
      simp only [setRange, List.getElem?_cons_succ, ih k, List.length_cons]
      by_cases hk : o ≤ k ∧ k < o + (vs.length + 1)
      · rw [if_pos hk, if_pos (by omega)]; congr 1; omega
      · rw [if_neg hk, if_neg (by omega)]
theorem setRange_mem : ∀ (c : List Value) (o : Nat) (vs : List Value) (x : Value), x ∈ setRange c o vs → x ∈ c ∨ x ∈ vs
  | c, _, [], x, h => by cases c <;> simp_all [setRange]
  | [], _, _ :: _, x, h => by simp [setRange] at h
  | y :: c, 0, v :: vs, x, h => by
    simp only [setRange, List.mem_cons] at h
    rcases h with rfl | h
    · exact .inr (by simp)
    · rcases setRange_mem c 0 vs x h with h | h
      · exact .inl (by simp [h])
      · exact .inr (by simp [h])
  | y :: c, o + 1, v :: vs, x, h => by
    simp only [setRange, List.mem_cons] at h
    rcases h with rfl | h
    · exact .inl (by simp)
    · rcases setRange_mem c o (v :: vs) x h with h | h
      · exact .inl (by simp [h])
      · exact .inr h

/-- What the model's stores of a row of cells leave. -/
theorem setCells_heap (b : Nat) : ∀ (vs : List Value) (o : Nat) (w : World) (cs : Array Value) (t : TypeId) (f : Nat × Nat), w.heap[b]? = some (.cells cs t f) → o + vs.length ≤ cs.size →
    ∃ cs', (w.setCells b o vs).heap[b]? = some (.cells cs' t f) ∧ cs'.size = cs.size ∧ (∀ k : Nat, cs'[k]? = if o ≤ k ∧ k < o + vs.length then vs[k - o]? else cs[k]?) ∧
      (∀ k, k ≠ b → (w.setCells b o vs).heap[k]? = w.heap[k]?) ∧ (w.setCells b o vs).heap.size = w.heap.size ∧
      (w.setCells b o vs) = { w with heap := (w.setCells b o vs).heap }
  | [], o, w, cs, t, f, h, _ => ⟨cs, h, rfl, fun k => by rw [if_neg (by simp)], fun _ _ => rfl, rfl, rfl⟩
  | v :: vs, o, w, cs, t, f, h, hle => by
    simp only [List.length_cons] at hle
    have h1 : (w.setCell ⟨b, o, none⟩ v).heap[b]? = some (.cells (cs.setIfInBounds o v) t f) := by
      simp [World.setCell, Array.getElem?_modify, h]
    obtain ⟨cs', g1, g2, g3, g4, g5, g6⟩ := setCells_heap b vs (o + 1) (w.setCell ⟨b, o, none⟩ v) _ t f h1 (by simp; omega)
    refine ⟨cs', g1, by simpa using g2, fun k => ?_, fun k hk => ?_, ?_, ?_⟩
    · rw [g3 k]
      simp only [List.length_cons]
      by_cases h2 : o + 1 ≤ k ∧ k < o + 1 + vs.length
      · rw [if_pos h2, if_pos (by omega)]
        rw [show k - o = (k - (o + 1)) + 1 by omega]
        simp
      · rw [if_neg h2]
        by_cases h3 : k = o
        · subst h3
          rw [if_pos (by omega)]
          have : k < cs.size := by omega
          simp [this]
        · rw [if_neg (by omega), Array.getElem?_setIfInBounds_ne (by omega)]
    · show ((w.setCell ⟨b, o, none⟩ v).setCells b (o + 1) vs).heap[k]? = _
      rw [g4 k hk]
      simp only [World.setCell, Array.getElem?_modify]
      rw [if_neg (fun e => hk e.symm)]
    · show ((w.setCell ⟨b, o, none⟩ v).setCells b (o + 1) vs).heap.size = _
      rw [g5]; simp [World.setCell]
    · show ((w.setCell ⟨b, o, none⟩ v).setCells b (o + 1) vs) = _
      rw [g6]; rfl

def oneCell (v : Value) : Bool := match v with | .agg _ | .tuple _ => false | _ => true
theorem oneCell_ren (R : Map) (v : Value) : (ren R v).oneCell' = oneCell v := by
  cases v with
  | pointer a => cases a <;> rfl
  | slice a l c => cases a <;> rfl
  | map a => cases a <;> rfl
  | _ => rfl
theorem cells_ren (R : Map) (v : Value) : (ren R v).cells = renA R v.cells := by
  cases v with
  | pointer a => cases a <;> rfl
  | slice a l c => cases a <;> rfl
  | map a => cases a <;> rfl
  | agg cs => rfl
  | _ => rfl
theorem wfv_cells {R : Map} {v : Value} (h : wfv R v) : wfL R v.cells.toList := by
  cases v with
  | agg cs => cases cs; exact h
  | _ => exact ⟨h, trivial⟩

/-- The row of cells that is written lies in the local block (or in the room behind it). -/
theorem storeRow_ok {P : Program} {R : Map} {h : LH} {w : World} {i o : Nat} {c : List Value} {e : Nat} {vs : List Value} (r : HRel R h w.heap) (hc : cellsAt h i = some (c, e))
    (hle : o + vs.length ≤ c.length) (h1 : vs.all oneCell = true) (hw : wfL R vs) :
    ∃ w', (storeCells ⟨R.b i, o, none⟩ (vs.map (ren R))).run P w = .ok () w' ∧ Goes R h w R (h.put i (.cells (setRange c o vs) e)) w' := by
  obtain ⟨cs, t, f, g1, g2, g3, g4, g5, g6⟩ := r.cells hc
  have hrun := run_storeCells_cells (P := P) (R.b i) o (vs.map (ren R)) 0 w
    (fun j hj => by
      simp only [List.length_map] at hj
      have hlt : o + 0 + j < c.length := by omega
      rw [r.cell hc (List.getElem?_eq_getElem hlt)]; rfl)
    (fun j hj => by simp only [List.length_map] at hj; exact r.notFrozen hc (by omega))
    (fun v hv => by
      obtain ⟨u, hu, rfl⟩ := List.mem_map.1 hv
      rw [oneCell_ren]
      exact List.all_eq_true.1 h1 u hu)
  simp only [Nat.add_zero] at hrun
  obtain ⟨cs', k1, k2, k3, k4, k5, k6⟩ := setCells_heap (R.b i) (vs.map (ren R)) o w cs t f g1 (by simp; omega)
  refine ⟨_, hrun, ?_⟩
  rw [k6]
  refine Goes.put r (cellsAt_get hc) k5 ?_ k4
  refine ⟨cs', t, f, k1, by rw [setRange_length, k2]; exact g2, fun k v hk => ?_, by rw [setRange_length]; exact g4, g5, ?_⟩
  · rw [setRange_get c o vs hle k] at hk
    rw [k3 k]
    simp only [List.length_map]
    by_cases h2 : o ≤ k ∧ k < o + vs.length
    · rw [if_pos h2] at hk ⊢
      rw [List.getElem?_map, hk]; rfl
    · rw [if_neg h2] at hk ⊢
      exact g3 k v hk
  · rw [wfL_iff] at hw g6 ⊢
    intro x hx
    rcases setRange_mem c o vs x hx with hx | hx
    · exact g6 x hx
    · exact hw x hx

def lstore (P : Program) (h : LH) (t : TypeId) (x v : Value) : Option LH :=
  match x with
  | .pointer (some a) =>
    match cellsAt h a.block with
    | some (c, e) =>
      match P.info? t with
      | some i =>
        if v.cells.size = i.size ∧ a.off + i.size ≤ c.length ∧ v.cells.toList.all oneCell = true then some (h.put a.block (.cells (setRange c a.off v.cells.toList) e)) else none
      | none => none
    | none => none
  | _ => none
theorem lstore_ok {P : Program} {R : Map} {h h' : LH} {w : World} {t : TypeId} {x v : Value} (r : HRel R h w.heap) (hx : wfv R x) (hv : wfv R v) (hs : lstore P h t x v = some h') :
    ∃ w', (Instr.storeAt t (ren R x) (ren R v)).run P w = .ok () w' ∧ Goes R h w R h' w' := by
  unfold lstore at hs
  split at hs
  case h_2 => cases hs
  rename_i a
  simp only [wfv] at hx
  split at hs
  case h_2 => cases hs
  rename_i c e hc
  split at hs
  case h_2 => cases hs
  rename_i i hi
  split at hs
  case isFalse => cases hs
  rename_i hcond
  simp only [Option.some.injEq] at hs
  subst hs
  obtain ⟨h1, h2, h3⟩ := hcond
  have hspot : (⟨R.b a.block, a.off, a.spot⟩ : Addr) = ⟨R.b a.block, a.off, none⟩ := by rw [hx.2]
  obtain ⟨w', hr, hg⟩ := storeRow_ok (P := P) r hc (o := a.off) (vs := v.cells.toList) (by simp; omega) h3 (wfv_cells hv)
  refine ⟨w', ?_, hg⟩
  have hcells : (ren R v).cells.toList = v.cells.toList.map (ren R) := by rw [cells_ren, renA_eq]; simp
  have hsize : (ren R v).cells.size = i.size := by rw [cells_ren, renA_eq]; simpa using h1
  simp only [ren, hspot, Instr.storeAt, Instr.sureAddr, Sem.run_bind, Sem.run_pure, Result.andThen_ok, storeVar, sizeOf, typeInfo, run_program, hi, hsize, hcells]
  simp [hr]

/-! ### New blocks -/
theorem newRow_ok {P : Program} {R : Map} {h : LH} {w : World} {c : List Value} (r : HRel R h w.heap) (hw : wfL R c) (elem : TypeId) :
    ∃ R' w', (newRow elem (c.map (ren R)).toArray).run P w = .ok ⟨R'.b h.next, 0, none⟩ w' ∧ (R' h.next).isSome = true ∧ R'.d h.next = 0 ∧ Goes R h w R' (h.add (.cells c 0)) w' := by
  refine ⟨R.put h.next w.heap.size 0, { w with heap := w.heap.push (.cells (c.map (ren R)).toArray elem) }, ?_, Map.put_isSome _ _ _ _, Map.put_d _ _ _ _, ?_⟩
  · simp [newRow, Map.put_b]
  · refine Goes.add r ?_
    have hext : R.ext (R.put h.next w.heap.size 0) := Map.put_ext (r.fresh _ (Nat.le_refl _))
    refine ⟨(c.map (ren R)).toArray, elem, (0, 0), rfl, by simp, fun k v hk => ?_, fun k _ hk => by simp at hk, fun _ => Map.put_d _ _ _ _, (renL_ext hext c hw).2⟩
    rw [(ren_ext hext v ((wfL_iff _ _).1 hw v (List.mem_of_getElem? hk))).1]
    simp [hk]

def lnew (h : LH) (c : List Value) : Value × LH := (.pointer (some ⟨h.next, 0, none⟩), h.add (.cells c 0))

def lalloc (P : Program) (h : LH) (t : TypeId) : Option (Value × LH) :=
  match P.info? t with
  | some i => match i.zero with
    | some z => if plain z = true then some (lnew h z.cells.toList) else none
    | none => none
  | none => none
theorem plain_cells {v : Value} (h : plain v = true) : plainL v.cells.toList = true := by
  cases v with
  | agg cs => cases cs; exact h
  | _ => simpa [Value.cells, plainL] using h
theorem newVar_ok {P : Program} {R : Map} {h : LH} {w : World} {v : Value} (r : HRel R h w.heap) (hv : wfv R v) (t : TypeId) :
    ∃ R' w', (newVar t (ren R v)).run P w = .ok ⟨R'.b h.next, 0, none⟩ w' ∧ (R' h.next).isSome = true ∧ Goes R h w R' (h.add (.cells v.cells.toList 0)) w' := by
  obtain ⟨R', w', h1, h2, _, h3⟩ := newRow_ok (P := P) r (wfv_cells hv) t
  refine ⟨R', w', ?_, h2, h3⟩
  rw [← h1]
  unfold newVar
  rw [cells_ren, renA_eq]
  congr 2
  cases hc : v.cells
  simp
theorem lalloc_ok {P : Program} {R : Map} {h h' : LH} {w : World} {t : TypeId} {v : Value} (r : HRel R h w.heap) (ha : lalloc P h t = some (v, h')) (old : Value) :
    OpOk P R h w (Instr.alloc t true old) v h' := by
  unfold lalloc at ha
  split at ha
  case h_2 => cases ha
  rename_i i hi
  split at ha
  case h_2 => cases ha
  rename_i z hz
  split at ha
  case isFalse => cases ha
  rename_i hp
  simp only [Option.some.injEq, lnew, Prod.mk.injEq] at ha
  obtain ⟨rfl, rfl⟩ := ha
  obtain ⟨h1, h2⟩ := plain_ren R z hp
  obtain ⟨R', w', g1, g2, g3⟩ := newVar_ok (P := P) r h2 t
  rw [h1] at g1
  refine ⟨R', w', ?_, ⟨g2, rfl⟩, g3⟩
  simp [Instr.alloc, zeroValue, typeInfo, hi, hz, g1, ren]
theorem lbox_ok {P : Program} {R : Map} {h : LH} {w : World} {t : TypeId} {v : Value} (r : HRel R h w.heap) (hv : wfv R v) :
    OpOk P R h w (Instr.box t (ren R v)) (lnew h v.cells.toList).1 (lnew h v.cells.toList).2 := by
  obtain ⟨R', w', g1, g2, g3⟩ := newVar_ok (P := P) r hv t
  refine ⟨R', w', ?_, ⟨g2, rfl⟩, g3⟩
  simp [Instr.box, g1, lnew, ren]
end
end Go.Proofs.YtedfhallhpkkhaaGreatDoor.X
/- More operations of the model on the local heap: building, addresses, slices, conversions. Any program. -/
namespace Go.Proofs.YtedfhallhpkkhaaGreatDoor.X
open Go
noncomputable section

/-! ### Build -/
theorem foldl_set_map (f : Value → Value) (off : Nat) : ∀ (l : List (Value × Nat)) (cells : Array Value),
    (l.foldl (fun cs x => cs.setIfInBounds (off + x.2) x.1) cells).map f = (l.map fun x => (f x.1, x.2)).foldl (fun cs x => cs.setIfInBounds (off + x.2) x.1) (cells.map f) := by
  intro l
  induction l with
  | nil => intro cells; rfl
  | cons x l ih => intro cells; simp only [List.foldl_cons, List.map_cons]; rw [ih]; congr 1; simp [Array.map_setIfInBounds]
theorem foldl_set_size (off : Nat) : ∀ (l : List (Value × Nat)) (cells : Array Value),
    (l.foldl (fun cs x => cs.setIfInBounds (off + x.2) x.1) cells).size = cells.size := by
  intro l
  induction l with
  | nil => intro cells; rfl
  | cons x l ih => intro cells; simp only [List.foldl_cons]; rw [ih]; simp
theorem foldl_set_mem (off : Nat) : ∀ (l : List (Value × Nat)) (cells : Array Value) (v : Value),
    v ∈ (l.foldl (fun cs x => cs.setIfInBounds (off + x.2) x.1) cells) → v ∈ cells ∨ ∃ n, (v, n) ∈ l := by
  intro l
  induction l with
  | nil => intro cells v h; exact .inl h
  | cons x l ih =>
    intro cells v h
    simp only [List.foldl_cons] at h
    rcases ih _ v h with h | ⟨n, h⟩
    · rcases Array.mem_or_eq_of_mem_setIfInBounds h with h | h
      · exact .inl h
      · exact .inr ⟨x.2, by simp [h]⟩
    · exact .inr ⟨n, by simp [h]⟩
theorem fill_ren (R : Map) (place : Nat → Option (Nat × Nat)) : ∀ (parts : List (Nat × Value)) (cells : Array Value),
    Instr.fill place (renA R cells) (parts.map fun p => (p.1, ren R p.2)) = (Instr.fill place cells parts).map (renA R) := by
  intro parts
  induction parts with
  | nil => intro cells; rfl
  | cons p parts ih =>
    intro cells
    obtain ⟨i, v⟩ := p
    simp only [List.map_cons, Instr.fill]
    cases hp : place i with
    | none => rfl
    | some q =>
      obtain ⟨off, size⟩ := q
      simp only
      have hs : (ren R v).cells.size = v.cells.size := by rw [cells_ren, renA_eq]; simp
      have hs2 : (renA R cells).size = cells.size := by rw [renA_eq]; simp
      rw [hs, hs2]
      split
      · rfl
      · rw [← ih]
        congr 1
        rw [cells_ren, renA_eq, renA_eq, renA_eq]
        simp only [← Array.foldl_toList, Array.toList_zipIdx, Array.toList_map]
        rw [foldl_set_map (ren R) off]
        congr 1
        simp [List.zipIdx_map]
theorem fill_wf (R : Map) (place : Nat → Option (Nat × Nat)) : ∀ (parts : List (Nat × Value)) (cells cs : Array Value), Instr.fill place cells parts = some cs →
    wfA R cells → (∀ p ∈ parts, wfv R p.2) → wfA R cs := by
  intro parts
  induction parts with
  | nil => intro cells cs h hc _; simp only [Instr.fill, Option.some.injEq] at h; subst h; exact hc
  | cons p parts ih =>
    intro cells cs h hc hp
    obtain ⟨i, v⟩ := p
    simp only [Instr.fill] at h
    cases hq : place i with
    | none => rw [hq] at h; cases h
    | some q =>
      obtain ⟨off, size⟩ := q
      rw [hq] at h
      simp only at h
      split at h
      · cases h
      · refine ih _ _ h ?_ (fun p hpm => hp p (by simp [hpm]))
        rw [wfA_iff] at hc ⊢
        intro x hx
        simp only [← Array.foldl_toList, Array.toList_zipIdx] at hx
        rcases foldl_set_mem off _ _ _ hx with hx | ⟨n, hx⟩
        · exact hc x hx
        · have hv := (wfL_iff _ _).1 (wfv_cells (hp (i, v) (by simp)))
          exact hv x (List.fst_mem_of_mem_zipIdx hx)

def lplaces (P : Program) (fields : Array Field) : Option (Array (Nat × Nat)) := runP P (fields.mapM fun f => do pure (f.offset, ← sizeOf f.type))
def lbuild (P : Program) (t : TypeId) (parts : Array (Nat × Value)) : Option Value :=
  match P.info? t with
  | some i => match i.zero with
    | some z =>
      if plain z = true then
        match P.underlying t with
        | some (.struct fields) =>
          match lplaces P fields with
          | some places => match Instr.fill (places[·]?) z.cells parts.toList with
            | some cells => some (.agg cells)
            | none => none
          | none => none
        | some (.array _ elem) =>
          match P.info? elem with
          | some ie => match Instr.fill (fun i => some (i * ie.size, ie.size)) z.cells parts.toList with
            | some cells => some (.agg cells)
            | none => none
          | none => none
        | _ => none
      else none
    | none => none
  | none => none
theorem lbuild_ok {P : Program} {R : Map} {w : World} {t : TypeId} {parts : Array (Nat × Value)} {v : Value} (hp : ∀ p ∈ parts, wfv R p.2) (hb : lbuild P t parts = some v) :
    (Instr.build t (parts.map fun p => (p.1, ren R p.2))).run P w = .ok (ren R v) w ∧ wfv R v := by
  unfold lbuild at hb
  split at hb
  case h_2 => cases hb
  rename_i i hi
  split at hb
  case h_2 => cases hb
  rename_i z hz
  split at hb
  case isFalse => cases hb
  rename_i hpl
  have hzc : renA R z.cells = z.cells := by rw [← cells_ren, (plain_ren R z hpl).1]
  have hzw : wfA R z.cells := by
    rw [wfA_iff]
    intro x hx
    exact (wfL_iff _ _).1 (wfv_cells (plain_ren R z hpl).2) x (by simpa using hx)
  have hparts : ∀ p ∈ parts.toList, wfv R p.2 := fun p h => hp p (by simpa using h)
  have hfill : ∀ place cells, Instr.fill place z.cells parts.toList = some cells →
      Instr.fill place z.cells (parts.map fun p => (p.1, ren R p.2)).toList = some (renA R cells) := by
    intro place cells h
    have := fill_ren R place parts.toList z.cells
    rw [hzc, h] at this
    simpa using this
  split at hb
  · rename_i fields hu
    split at hb
    case h_2 => cases hb
    rename_i places hpl'
    split at hb
    case h_2 => cases hb
    rename_i cells hf
    simp only [Option.some.injEq] at hb
    subst hb
    refine ⟨?_, fill_wf R _ _ _ _ hf hzw hparts⟩
    have h1 := runP_run hpl' w
    simp only [Instr.build, Sem.run_bind, zeroValue, typeInfo, run_program, Result.andThen_ok, hi, Sem.run_pure, hz, run_underlying hu w, h1, hfill _ _ hf, ren]
  · rename_i n elem hu
    split at hb
    case h_2 => cases hb
    rename_i ie hie
    split at hb
    case h_2 => cases hb
    rename_i cells hf
    simp only [Option.some.injEq] at hb
    subst hb
    refine ⟨?_, fill_wf R _ _ _ _ hf hzw hparts⟩
    simp only [Instr.build, Sem.run_bind, zeroValue, sizeOf, typeInfo, run_program, Result.andThen_ok, hi, Sem.run_pure, hz, run_underlying hu w, hie, hfill _ _ hf, ren]
  · cases hb

def zcs (n : Nat) (z : Value) : Array Value := if n = 0 then #[] else z.cells
def tile (n : Nat) (z : Value) : Array Value := (Array.range n).map ((zcs n z)[· % (zcs n z).size]!)
def lbuildSlice (P : Program) (h : LH) (t : TypeId) (len : Nat) (parts : Array (Nat × Value)) : Option (Value × LH) :=
  match P.underlying t with
  | some (.slice elem) =>
    match P.info? elem with
    | some ie =>
      match ie.zero with
      | some z =>
        if len * ie.size ≤ 16777216 then
          if plainA (tile (len * ie.size) z) = true then
            match Instr.fill (fun i => some (i * ie.size, ie.size)) (tile (len * ie.size) z) parts.toList with
            | some cells => some (.slice (some ⟨h.next, 0, none⟩) len len, h.add (.cells cells.toList 0))
            | none => none
          else none
        else none
      | none => none
    | none => none
  | _ => none
theorem lbuildSlice_ok {P : Program} {R : Map} {h h' : LH} {w : World} {t : TypeId} {len : Nat} {parts : Array (Nat × Value)} {v : Value} (r : HRel R h w.heap) (hp : ∀ p ∈ parts, wfv R p.2)
    (hb : lbuildSlice P h t len parts = some (v, h')) : OpOk P R h w (Instr.buildSlice t len (parts.map fun p => (p.1, ren R p.2))) v h' := by
  unfold lbuildSlice at hb
  split at hb
  case h_2 => cases hb
  rename_i elem hu
  split at hb
  case h_2 => cases hb
  rename_i ie hie
  split at hb
  case h_2 => cases hb
  rename_i z hz
  split at hb
  case isFalse => cases hb
  rename_i hsz
  split at hb
  case isFalse => cases hb
  rename_i hpl
  split at hb
  case h_2 => cases hb
  rename_i cells hf
  simp only [Option.some.injEq, Prod.mk.injEq] at hb
  obtain ⟨rfl, rfl⟩ := hb
  obtain ⟨hzc, hzw⟩ := plainA_ren R _ hpl
  have hparts : ∀ p ∈ parts.toList, wfv R p.2 := fun p h => hp p (by simpa using h)
  have hwf := fill_wf R _ _ _ _ hf hzw hparts
  have hfill := fill_ren R (fun i => some (i * ie.size, ie.size)) parts.toList (tile (len * ie.size) z)
  rw [hzc, hf] at hfill
  simp only [Option.map_some] at hfill
  obtain ⟨R', w', g1, g2, g3, g4⟩ := newRow_ok (P := P) r (c := cells.toList) (by rw [wfL_iff]; rw [wfA_iff] at hwf; intro x hx; exact hwf x (by simpa using hx)) elem
  refine ⟨R', w', ?_, ⟨g2, rfl⟩, g4⟩
  have hcells : (cells.toList.map (ren R)).toArray = renA R cells := by rw [renA_eq]; cases cells; simp
  rw [hcells] at g1
  have hn : ¬ len * ie.size > 2 ^ 24 := by
    have : (2 : Nat) ^ 24 = 16777216 := rfl
    omega
  have hpl2 : (parts.map fun p => (p.1, ren R p.2)).toList = parts.toList.map fun p => (p.1, ren R p.2) := by simp
  simp only [Instr.buildSlice, Sem.run_bind, run_underlying hu w, Result.andThen_ok, sizeOf, typeInfo, run_program, hie, Sem.run_pure, if_neg hn]
  by_cases hn0 : len * ie.size = 0
  · simp only [tile, zcs, if_pos hn0] at hfill
    rw [if_pos hn0]
    simp only [Sem.run_bind, Sem.run_pure, Result.andThen_ok, hpl2, hfill, g1, ren, g3, Nat.add_zero]
  · simp only [tile, zcs, if_neg hn0] at hfill
    rw [if_neg hn0]
    simp only [Sem.run_bind, zeroValue, typeInfo, run_program, hie, hz, Sem.run_pure, Result.andThen_ok, hpl2, hfill, g1, ren, g3, Nat.add_zero]

/-! ### Addresses -/
def lfieldAddr (P : Program) (t : TypeId) (x : Value) (f : Nat) : Option Value :=
  match P.underlying t with
  | some (.struct fields) =>
    match fields[f]? with
    | some fd =>
      match x, P.info? fd.type with
      | .pointer (some a), some i => if i.size = 0 then none else some (.pointer (some (a.add fd.offset)))
      | _, _ => none
    | none => none
  | _ => none
theorem add_ren (R : Map) (a : Addr) (n : Nat) (h : a.spot = none) : (⟨R.b a.block, a.off, a.spot⟩ : Addr).add n = ⟨R.b (a.add n).block, (a.add n).off, (a.add n).spot⟩ ∧ (a.add n).spot = none ∧ (a.add n).block = a.block := by
  unfold Addr.add
  split <;> simp [h]
theorem lfieldAddr_ok {P : Program} {R : Map} {w : World} {t : TypeId} {x v : Value} {f : Nat} (hx : wfv R x) (hv : lfieldAddr P t x f = some v) :
    (Instr.fieldAt t (ren R x) f).run P w = .ok (ren R v) w ∧ wfv R v := by
  unfold lfieldAddr at hv
  split at hv
  case h_2 => cases hv
  rename_i fields hu
  split at hv
  case h_2 => cases hv
  rename_i fd hfd
  split at hv
  case h_2 => cases hv
  rename_i a i hi
  split at hv
  case isTrue => cases hv
  rename_i hs
  simp only [Option.some.injEq] at hv
  subst hv
  simp only [wfv] at hx
  obtain ⟨h1, h2, h3⟩ := add_ren R a fd.offset hx.2
  refine ⟨?_, ?_⟩
  · simp only [Instr.fieldAt, Sem.run_bind, run_underlying hu w, Result.andThen_ok, hfd, Instr.sureAddr, ren, Sem.run_pure, fieldPlace, sizeOf, typeInfo, run_program, hi, if_neg hs, h1]
  · simp only [wfv]; rw [h3]; exact ⟨hx.1, h2⟩

def lindexAddr (P : Program) (t : TypeId) (x ix : Value) : Option Value :=
  match ix with
  | .int _ i =>
    match P.underlying t, x with
    | some (.array len elem), .pointer (some a) =>
      match P.info? elem with
      | some ie => if 0 ≤ i ∧ i < len then some (.pointer (some (a.add (i.toNat * ie.size)))) else none
      | none => none
    | some (.slice elem), .slice (some a) len _ =>
      match P.info? elem with
      | some ie => if 0 ≤ i ∧ i < len then some (.pointer (some (a.add (i.toNat * ie.size)))) else none
      | none => none
    | _, _ => none
  | _ => none
theorem lindexAddr_ok {P : Program} {R : Map} {w : World} {t : TypeId} {x ix v : Value} (hx : wfv R x) (hv : lindexAddr P t x ix = some v) :
    (Instr.indexAt t (ren R x) (ren R ix)).run P w = .ok (ren R v) w ∧ wfv R v := by
  unfold lindexAddr at hv
  split at hv
  case h_2 => cases hv
  rename_i k i
  split at hv
  · rename_i len elem a hu
    split at hv
    case h_2 => cases hv
    rename_i ie hie
    split at hv
    case isFalse => cases hv
    rename_i hb
    simp only [Option.some.injEq] at hv
    subst hv
    simp only [wfv] at hx
    obtain ⟨h1, h2, h3⟩ := add_ren R a (i.toNat * ie.size) hx.2
    refine ⟨?_, ?_⟩
    · simp only [Instr.indexAt, Sem.run_bind, asIntOf, ren, Sem.run_pure, Result.andThen_ok, run_underlying hu w, Instr.sureAddr, if_pos hb, sizeOf, typeInfo, run_program, hie, h1]
    · simp only [wfv]; rw [h3]; exact ⟨hx.1, h2⟩
  · rename_i elem a len cap hu
    split at hv
    case h_2 => cases hv
    rename_i ie hie
    split at hv
    case isFalse => cases hv
    rename_i hb
    simp only [Option.some.injEq] at hv
    subst hv
    simp only [wfv] at hx
    obtain ⟨h1, h2, h3⟩ := add_ren R a (i.toNat * ie.size) hx.2
    refine ⟨?_, ?_⟩
    · simp only [Instr.indexAt, Sem.run_bind, asIntOf, ren, Sem.run_pure, Result.andThen_ok, run_underlying hu w, if_pos hb, sizeOf, typeInfo, run_program, hie, h1]
    · simp only [wfv]; rw [h3]; exact ⟨hx.1, h2⟩
  · cases hv

/-! ### Parts of values -/
def lpart (P : Program) (t : TypeId) (cs : Array Value) (off : Nat) : Option Value :=
  match runP P (isAgg t) with
  | some true => match P.info? t with
    | some i => some (.agg (cs.extract off (off + i.size)))
    | none => none
  | some false => cs[off]?
  | none => none
theorem lpart_ok {P : Program} {R : Map} {w : World} {t : TypeId} {cs : Array Value} {off : Nat} {v : Value} (hw : wfA R cs) (hv : lpart P t cs off = some v) :
    (part t (renA R cs) off).run P w = .ok (ren R v) w ∧ wfv R v := by
  unfold lpart at hv
  rw [wfA_iff] at hw
  split at hv
  · rename_i hagg
    split at hv
    case h_2 => cases hv
    rename_i i hi
    simp only [Option.some.injEq] at hv
    subst hv
    refine ⟨?_, ?_⟩
    · simp only [part, Sem.run_bind, runP_run hagg w, Result.andThen_ok, if_true, sizeOf, typeInfo, run_program, hi, Sem.run_pure, ren, renA_eq]
      congr 2
      simp
    · simp only [wfv, wfA_iff]
      intro x hx
      have hx' : x ∈ (cs.extract off (off + i.size)).toList := Array.mem_toList_iff.2 hx
      rw [Array.toList_extract, List.extract_eq_take_drop] at hx'
      exact hw x (by have := List.mem_of_mem_drop (List.mem_of_mem_take hx'); simpa using this)
  · rename_i hagg
    refine ⟨?_, hw v (Array.mem_of_getElem? hv)⟩
    have : (renA R cs)[off]? = some (ren R v) := by rw [renA_eq]; simp [hv]
    simp only [part, Sem.run_bind, runP_run hagg w, Result.andThen_ok, Bool.false_eq_true, if_false, this, Sem.run_pure]
  · cases hv
def lfield (P : Program) (t : TypeId) (x : Value) (f : Nat) : Option Value :=
  match P.underlying t, x with
  | some (.struct fields), .agg cs =>
    match fields[f]? with
    | some fd => lpart P fd.type cs fd.offset
    | none => none
  | _, _ => none
theorem lfield_ok {P : Program} {R : Map} {w : World} {t : TypeId} {x v : Value} {f : Nat} (hx : wfv R x) (hv : lfield P t x f = some v) :
    (Instr.field t (ren R x) f).run P w = .ok (ren R v) w ∧ wfv R v := by
  unfold lfield at hv
  split at hv
  case h_2 => cases hv
  rename_i fields cs hu
  split at hv
  case h_2 => cases hv
  rename_i fd hfd
  obtain ⟨h1, h2⟩ := lpart_ok (w := w) (R := R) hx hv
  refine ⟨?_, h2⟩
  simp only [Instr.field, Sem.run_bind, run_underlying hu w, Result.andThen_ok, hfd, asAgg, ren, Sem.run_pure, h1]
def lindex (P : Program) (t : TypeId) (x ix : Value) : Option Value :=
  match P.underlying t, x, ix with
  | some (.array len elem), .agg cs, .int _ i =>
    match P.info? elem with
    | some ie => if 0 ≤ i ∧ i < len then lpart P elem cs (i.toNat * ie.size) else none
    | none => none
  | some .string, .string s, .int _ i => if 0 ≤ i then (s.data.toList[i.toNat]?).map fun b => .int .u8 b.toNat else none
  | _, _, _ => none
theorem byte_get (s : ByteArray) (i : Nat) : s[i]? = s.data.toList[i]? := by
  by_cases h : i < s.size
  · rw [getElem?_pos s i h]
    have h' : i < s.data.toList.length := by simpa using h
    rw [List.getElem?_eq_getElem h']
    rfl
  · rw [getElem?_neg s i h]
    have h' : s.data.toList.length ≤ i := by simpa using h
    rw [List.getElem?_eq_none h']
theorem lindex_ok {P : Program} {R : Map} {w : World} {t : TypeId} {x ix v : Value} (hx : wfv R x) (hv : lindex P t x ix = some v) :
    (Instr.index t (ren R x) (ren R ix)).run P w = .ok (ren R v) w ∧ wfv R v := by
  unfold lindex at hv
  split at hv
  · rename_i len elem cs k i hu
    split at hv
    case h_2 => cases hv
    rename_i ie hie
    split at hv
    case isFalse => cases hv
    rename_i hb
    obtain ⟨h1, h2⟩ := lpart_ok (w := w) (R := R) hx hv
    refine ⟨?_, h2⟩
    simp only [Instr.index, Sem.run_bind, asIntOf, ren, Sem.run_pure, Result.andThen_ok, run_underlying hu w, if_pos hb, sizeOf, typeInfo, run_program, hie, h1]
  · rename_i s k i hu
    split at hv
    case isFalse => cases hv
    rename_i hb
    simp only [Option.map_eq_some_iff] at hv
    obtain ⟨b, hb', rfl⟩ := hv
    refine ⟨?_, trivial⟩
    simp only [Instr.index, Sem.run_bind, asIntOf, ren, Sem.run_pure, Result.andThen_ok, run_underlying hu w, if_pos hb, byte_get, hb']
  · cases hv
def lextract (x : Value) (i : Nat) : Option Value :=
  match x with
  | .tuple vs => vs[i]?
  | _ => none
theorem lextract_ok {P : Program} {R : Map} {w : World} {x v : Value} {i : Nat} (hx : wfv R x) (hv : lextract x i = some v) :
    (Instr.extract (ren R x) i).run P w = .ok (ren R v) w ∧ wfv R v := by
  unfold lextract at hv
  split at hv
  case h_2 => cases hv
  rename_i vs
  simp only [wfv, wfA_iff] at hx
  refine ⟨?_, hx v (Array.mem_of_getElem? hv)⟩
  have : (renA R vs)[i]? = some (ren R v) := by rw [renA_eq]; simp [hv]
  simp only [Instr.extract, ren, this, Sem.run_pure]
end
end Go.Proofs.YtedfhallhpkkhaaGreatDoor.X
/- Slices, conversions and append on the local heap. Any program. -/
namespace Go.Proofs.YtedfhallhpkkhaaGreatDoor.X
open Go
noncomputable section

/-! ### Slicing -/
def bnd (x : Option Value) (y d : Nat) : Option Nat :=
  match x with
  | none => some d
  | some (.int _ i) => if 0 ≤ i ∧ i ≤ y then some i.toNat else none
  | _ => none
theorem bnd_le {x : Option Value} {y d n : Nat} (hd : d ≤ y) (h : bnd x y d = some n) : n ≤ y := by
  unfold bnd at h
  split at h
  · simp only [Option.some.injEq] at h; omega
  · split at h
    · simp only [Option.some.injEq] at h; omega
    · cases h
  · cases h
/-- s[lo:hi] of a slice whose block has exactly its local cells, or that does not begin at its local end; &a[lo:hi] of an array. -/
def lslice (P : Program) (h : LH) (t : TypeId) (x : Value) (lo hi : Option Value) : Option Value :=
  match P.underlying t, x with
  | some (.array n elem), .pointer (some a) =>
    match P.info? elem, cellsAt h a.block with
    | some ie, some (_, 0) =>
      match bnd hi n n with
      | some k => match bnd lo k 0 with
        | some l => some (.slice (some (if n = l then a else a.add (l * ie.size))) (k - l) (n - l))
        | none => none
      | none => none
    | _, _ => none
  | some (.slice elem), .slice (some a) len cap =>
    match P.info? elem, cellsAt h a.block with
    | some ie, some (_, e) =>
      match bnd hi cap len with
      | some k => match bnd lo k 0 with
        | some l => if len ≤ cap ∧ (e = 0 ∨ cap ≠ l ∨ l = 0) then some (.slice (some (if cap = l then a else a.add (l * ie.size))) (k - l) (cap - l)) else none
        | none => none
      | none => none
    | _, _ => none
  | _, _ => none
theorem bnd_some {P : Program} {R : Map} {w : World} {v : Value} {y y' d n : Nat} (hy : y ≤ y') (code : BoundsCode) (h : bnd (some v) y d = some n) :
    (Instr.sliceBound (ren R v) y' code).run P w = .ok n w := by
  unfold bnd at h
  split at h
  · rename_i hx; cases hx
  · rename_i k i hx
    simp only [Option.some.injEq] at hx
    subst hx
    split at h
    case isFalse => cases h
    rename_i hi
    simp only [Option.some.injEq] at h
    subst h
    simp only [ren, Instr.sliceBound, Sem.run_bind, asIntOf, Sem.run_pure, Result.andThen_ok]
    rw [if_pos (by omega)]
    rfl
  · cases h
theorem sliceBounds_ok {P : Program} {R : Map} {w : World} {lo hi : Option Value} {len cap cap' k l : Nat} (b : Bool) (hc : cap ≤ cap') (h1 : bnd hi cap len = some k) (h2 : bnd lo k 0 = some l) :
    (Instr.sliceBounds b len cap' (lo.map (ren R)) (hi.map (ren R)) none).run P w = .ok (l, k, cap') w := by
  cases hi with
  | none =>
    have hk : len = k := by simpa [bnd] using h1
    subst hk
    cases lo with
    | none =>
      have hl : 0 = l := by simpa [bnd] using h2
      subst hl
      simp [Instr.sliceBounds]
    | some v =>
      have e2 := bnd_some (P := P) (R := R) (w := w) (Nat.le_refl len) .sliceB h2
      simp [Instr.sliceBounds, e2]
  | some u =>
    have e1 := bnd_some (P := P) (R := R) (w := w) hc (if b then .sliceAcap else .sliceAlen) h1
    cases lo with
    | none =>
      have hl : 0 = l := by simpa [bnd] using h2
      subst hl
      simp [Instr.sliceBounds, e1]
    | some v =>
      have e2 := bnd_some (P := P) (R := R) (w := w) (Nat.le_refl k) .sliceB h2
      simp [Instr.sliceBounds, e1, e2]
theorem ren_at (R : Map) (a : Addr) (n : Nat) (h : a.spot = none) : ren R (.pointer (some (a.add n))) = .pointer (some ((⟨R.b a.block, a.off, a.spot⟩ : Addr).add n)) := by
  rw [(add_ren R a n h).1]; rfl
theorem lslice_ok {P : Program} {R : Map} {h : LH} {w : World} {t : TypeId} {x v : Value} {lo hi : Option Value} (r : HRel R h w.heap) (hx : wfv R x) (hv : lslice P h t x lo hi = some v) :
    (Instr.sliceAt t (ren R x) (lo.map (ren R)) (hi.map (ren R)) none).run P w = .ok (ren R v) w ∧ wfv R v := by
  unfold lslice at hv
  split at hv
  · rename_i n elem a hu
    split at hv
    case h_2 => cases hv
    rename_i ie c hie hc
    split at hv
    case h_2 => cases hv
    rename_i k hk
    split at hv
    case h_2 => cases hv
    rename_i l hl
    simp only [Option.some.injEq] at hv
    subst hv
    simp only [wfv] at hx
    obtain ⟨_, _, _, _, _, _, _, h5, _⟩ := r.cells hc
    have hd : R.d a.block = 0 := h5 rfl
    obtain ⟨h1, h2, h3⟩ := add_ren R a (l * ie.size) hx.2
    have hb := sliceBounds_ok (P := P) (R := R) (w := w) false (Nat.le_refl n) hk hl
    refine ⟨?_, ?_⟩
    · simp only [Instr.sliceAt, Sem.run_bind, run_underlying hu w, Result.andThen_ok, Instr.sureAddr, ren, Sem.run_pure, hb, sizeOf, typeInfo, run_program, hie]
      congr 2
      · congr 1; split
        · rfl
        · exact h1
      · have : (if n = l then a else a.add (l * ie.size)).block = a.block := by split <;> simp [h3]
        rw [this, hd]; rfl
    · simp only [wfv]
      split
      · exact hx
      · rw [h3]; exact ⟨hx.1, h2⟩
  · rename_i elem a len cap hu
    split at hv
    case h_2 => cases hv
    rename_i ie c e hie hc
    split at hv
    case h_2 => cases hv
    rename_i k hk
    split at hv
    case h_2 => cases hv
    rename_i l hl
    split at hv
    case isFalse => cases hv
    rename_i hcond
    simp only [Option.some.injEq] at hv
    subst hv
    simp only [wfv] at hx
    obtain ⟨_, _, _, _, _, _, _, h5, _⟩ := r.cells hc
    obtain ⟨h1, h2, h3⟩ := add_ren R a (l * ie.size) hx.2
    have hkc : k ≤ cap := bnd_le hcond.1 hk
    have hlk : l ≤ k := bnd_le (by omega) hl
    have hb := sliceBounds_ok (P := P) (R := R) (w := w) true (Nat.le_add_right cap (R.d a.block)) hk hl
    have hblk : (if cap = l then a else a.add (l * ie.size)).block = a.block := by split <;> simp [h3]
    refine ⟨?_, ?_⟩
    · simp only [Instr.sliceAt, Instr.slice, Sem.run_bind, run_underlying hu w, Result.andThen_ok, ren, hb, sizeOf, typeInfo, run_program, hie, Sem.run_pure]
      rw [hblk]
      congr 2
      · by_cases hcl : cap = l
        · rw [if_pos hcl]
          by_cases hd : cap + R.d a.block = l
          · rw [if_pos hd]
          · rw [if_neg hd]
            have : l = 0 := by
              rcases hcond.2 with h6 | h6 | h6
              · exact absurd (by rw [h5 h6]; omega) hd
              · exact absurd hcl h6
              · exact h6
            subst this
            simp [Addr.add]
        · rw [if_neg hcl, if_neg (by omega)]
          simp only [Option.map_some]
          rw [h1, h3]
      · omega
    · simp only [wfv]
      split
      · exact hx
      · rw [h3]; exact ⟨hx.1, h2⟩
  · cases hv

/-! ### Bytes and strings -/
def byteCells (s : ByteArray) : List Value := s.data.toList.map fun b => .int .u8 b.toNat
theorem byteCells_plain (R : Map) (s : ByteArray) : renL R (byteCells s) = byteCells s ∧ wfL R (byteCells s) := by
  unfold byteCells
  induction s.data.toList with
  | nil => simp [renL, wfL]
  | cons b l ih => simp [renL, wfL, ih, ren, wfv]
def lbytesOf (h : LH) (s : ByteArray) : Value × LH := (.slice (some ⟨h.next, 0, none⟩) s.size s.size, h.add (.cells (byteCells s) 1))
theorem run_markStringish {P : Program} (w : World) (b : Nat) (cs : Array Value) (elem : TypeId) (f : Nat × Nat) (hb : w.heap[b]? = some (.cells cs elem f)) :
    (markStringish ⟨b, 0, none⟩).run P w = .ok () (w.freeze ⟨b, cs.size, none⟩ 1) := by
  simp [markStringish, World.shape?, hb]
theorem stringToBytes_ok {P : Program} {R : Map} {h : LH} {w : World} (r : HRel R h w.heap) (elem : TypeId) (s : ByteArray) :
    OpOk P R h w (Conv.stringToBytes elem s) (lbytesOf h s).1 (lbytesOf h s).2 := by
  let cap := (Question.appendCap s.size 0 elem).cut (w.tape w.drawn (.appendCap s.size 0 elem))
  have hcap : s.size ≤ cap := by simp only [cap, Question.cut]; omega
  let cs : Array Value := (s.data.map fun b => Value.int .u8 b.toNat) ++ Array.replicate (cap - s.size) (.int .u8 0)
  have hcs : cs.size = cap := by simp only [cs, Array.size_append, Array.size_map, Array.size_replicate]; show s.size + (cap - s.size) = cap; omega
  let w1 : World := { w with drawn := w.drawn + 1 }
  let w2 : World := { w1 with heap := w1.heap.push (.cells cs elem (cap, cap + 1)) }
  refine ⟨R.put h.next w.heap.size (cap - s.size), w2, ?_, ⟨Map.put_isSome _ _ _ _, rfl⟩, ?_⟩
  · have hm := run_markStringish (P := P) { w1 with heap := w1.heap.push (.cells cs elem) } w1.heap.size cs elem (0, 0) (by simp)
    have hfz : ({ w1 with heap := w1.heap.push (.cells cs elem) } : World).freeze ⟨w1.heap.size, cs.size, none⟩ 1 = w2 := by
      simp only [World.freeze]
      rw [if_neg (by omega)]
      simp only [w2]
      congr 1
      apply Array.ext_getElem?
      intro k
      simp only [Array.getElem?_modify, Array.getElem?_push]
      by_cases hk : k = w1.heap.size
      · subst hk; simp [hcs]
      · simp only [if_neg hk]
        rw [if_neg (fun e => hk e.symm)]
    rw [hfz] at hm
    have hrun : (Conv.stringToBytes elem s).run P w = .ok (.slice (some ⟨w.heap.size, 0, none⟩) s.size cap) w2 := by
      have hc : (choose (.appendCap s.size 0 elem)).run P w = .ok cap w1 := by
        rw [run_choose]; rfl
      have hn : (newRow elem cs).run P w1 = .ok ⟨w1.heap.size, 0, none⟩ { w1 with heap := w1.heap.push (.cells cs elem) } := by simp [newRow]
      simp only [Conv.stringToBytes, Sem.run_bind, hc, Result.andThen_ok]
      show ((newRow elem cs).run P w1).andThen _ = _
      rw [hn]
      simp only [Result.andThen_ok, Sem.run_bind, hm, Sem.run_pure]
      rfl
    rw [hrun]
    simp only [lbytesOf, ren, Map.put_b, Map.put_d]
    congr 2
    omega
  · have g1 := Goes.drew (w := w) r (w.drawn + 1)
    have hext : R.ext (R.put h.next w.heap.size (cap - s.size)) := Map.put_ext (r.fresh _ (Nat.le_refl _))
    have g2 : Goes R h w1 (R.put h.next w.heap.size (cap - s.size)) (lbytesOf h s).2 w2 := by
      refine Goes.add (w := w1) g1.rel ?_
      refine ⟨cs, elem, (cap, cap + 1), rfl, ?_, fun k v hk => ?_, fun k hk h2 => ?_, fun h0 => by omega, (byteCells_plain _ s).2⟩
      · rw [hcs]; show (byteCells s).length + (R.put h.next w.heap.size (cap - s.size)).d h.next * 1 ≤ cap
        rw [Map.put_d]; simp only [byteCells, List.length_map, Array.length_toList]; show s.size + _ ≤ cap; omega
      · have hv : ren (R.put h.next w1.heap.size (cap - s.size)) v = v := by
          have := (byteCells_plain (R.put h.next w1.heap.size (cap - s.size)) s).1
          rw [renL_eq] at this
          have h3 := congrArg (fun l : List Value => l[k]?) this
          simp only [List.getElem?_map, hk, Option.map_some, Option.some.injEq] at h3
          exact h3
        rw [hv]
        have hk' := hk
        simp only [byteCells, List.getElem?_map] at hk'
        have hlt : k < (s.data.map fun b => Value.int .u8 b.toNat).size := by
          have := (List.getElem?_eq_some_iff.1 hk).1
          simpa [byteCells] using this
        simp only [cs]
        rw [Array.getElem?_append_left hlt]
        simpa using hk'
      · have h3 : (R.put h.next w.heap.size (cap - s.size)).d h.next = cap - s.size := Map.put_d _ _ _ _
        have h4 : (byteCells s).length = s.size := by simp [byteCells]
        rw [h3, h4] at hk
        simp only at h2
        omega
    exact g1.trans g2

def bytesOf? : List Value → Option (List Int)
  | [] => some []
  | .int .u8 n :: l => (bytesOf? l).map (n :: ·)
  | _ => none
theorem bytesOf?_eq : ∀ {l : List Value} {ns : List Int}, bytesOf? l = some ns → l = ns.map (Value.int .u8)
  | [], ns, h => by simp only [bytesOf?, Option.some.injEq] at h; subst h; rfl
  | v :: l, ns, h => by
    cases v with
    | int k n =>
      cases k <;> simp only [bytesOf?, Option.map_eq_some_iff] at h <;> first | cases h | skip
      rename_i ms hm
      obtain ⟨h1, rfl⟩ := hm
      rw [bytesOf?_eq h1]; rfl
    | _ => simp [bytesOf?] at h
theorem foldl_push (ns : List Int) : ∀ (s : ByteArray), ns.foldl (fun r n => r.push (UInt8.ofNat n.toNat)) s = ⟨⟨s.data.toList ++ ns.map fun n => UInt8.ofNat n.toNat⟩⟩ := by
  induction ns with
  | nil => intro s; simp
  | cons n ns ih =>
    intro s
    simp only [List.foldl_cons, ih, List.map_cons]
    congr 2
    simp [ByteArray.push]
def lstring (h : LH) (x : Value) : Option Value :=
  match x with
  | .slice (some a) len _ =>
    match cellsAt h a.block with
    | some (c, _) =>
      if a.off + len ≤ c.length then
        match bytesOf? ((c.drop a.off).take len) with
        | some ns => some (.string ⟨⟨ns.map fun n => UInt8.ofNat n.toNat⟩⟩)
        | none => none
      else none
    | none => none
  | .slice none _ _ => some (.string .empty)
  | _ => none
theorem loadCells_ok {P : Program} {R : Map} {h : LH} {w : World} (r : HRel R h w.heap) {i : Nat} {c : List Value} {e o n : Nat} (hc : cellsAt h i = some (c, e)) (hle : o + n ≤ c.length) :
    (loadCells ⟨R.b i, o, none⟩ n).run P w = .ok (((c.drop o).take n).map (ren R)).toArray w := by
  have hlen : (((c.drop o).take n).map (ren R)).length = n := by simp; omega
  have := run_loadCells_list (P := P) w ⟨R.b i, o, none⟩ (((c.drop o).take n).map (ren R)) (fun j v hj => by
    rw [Addr.add_mid]
    rw [List.getElem?_map] at hj
    simp only [Option.map_eq_some_iff] at hj
    obtain ⟨u, hu, rfl⟩ := hj
    refine r.cell hc ?_
    rw [List.getElem?_take] at hu
    split at hu
    · rw [List.getElem?_drop] at hu; exact hu
    · cases hu)
  rw [hlen] at this
  exact this
theorem lstring_ok {P : Program} {R : Map} {h : LH} {w : World} {x v : Value} (r : HRel R h w.heap) (hx : wfv R x) (hv : lstring h x = some v) :
    (Conv.bytesToString (ren R x)).run P w = .ok (ren R v) w ∧ wfv R v := by
  unfold lstring at hv
  split at hv
  · rename_i a len cap
    split at hv
    case h_2 => cases hv
    rename_i c e hc
    split at hv
    case isFalse => cases hv
    rename_i hle
    split at hv
    case h_2 => cases hv
    rename_i ns hns
    simp only [Option.some.injEq] at hv
    subst hv
    simp only [wfv] at hx
    have hl := loadCells_ok (P := P) r hc hle
    have heq := bytesOf?_eq hns
    rw [heq] at hl
    have hm : ((ns.map (Value.int .u8)).map (ren R)) = ns.map (Value.int .u8) := by
      rw [List.map_map]; rfl
    rw [hm] at hl
    have hspot : (⟨R.b a.block, a.off, a.spot⟩ : Addr) = ⟨R.b a.block, a.off, none⟩ := by rw [hx.2]
    refine ⟨?_, trivial⟩
    simp only [ren, hspot]
    rw [run_bytesToString w _ len _ ns hl, foldl_push]
    rfl
  · simp only [Option.some.injEq] at hv
    subst hv
    exact ⟨rfl, trivial⟩
  · cases hv
end
end Go.Proofs.YtedfhallhpkkhaaGreatDoor.X
/- Append on the local heap: whether the model's append writes in place or moves, the local block is replaced by a new one. Any program. -/
namespace Go.Proofs.YtedfhallhpkkhaaGreatDoor.X
open Go
noncomputable section

def srcLen (x : Value) : Option Nat :=
  match x with
  | .slice _ n _ => some n
  | .string s => some s.size
  | _ => none
def srcCells (h : LH) (size n : Nat) (x : Value) : Option (List Value) :=
  match x with
  | .slice (some a) _ _ =>
    match cellsAt h a.block with
    | some (c, _) => if a.off + n * size ≤ c.length then some ((c.drop a.off).take (n * size)) else none
    | none => none
  | .slice none _ _ => if n = 0 then some [] else none
  | .string s => if n = s.size then some (byteCells s) else none
  | _ => none
theorem srcLen_ok {P : Program} {R : Map} {w : World} {x : Value} {n : Nat} (hn : srcLen x = some n) : (Builtin.lenOf (ren R x)).run P w = .ok n w := by
  unfold srcLen at hn
  split at hn
  · rename_i a m c
    simp only [Option.some.injEq] at hn; subst hn
    cases a <;> rfl
  · simp only [Option.some.injEq] at hn; subst hn; rfl
  · cases hn
theorem srcCells_ok {P : Program} {R : Map} {h : LH} {w : World} {x : Value} {size n : Nat} {xs : List Value} (r : HRel R h w.heap) (hx : wfv R x) (hc : srcCells h size n x = some xs) :
    (Builtin.firstCells size n (ren R x)).run P w = .ok (xs.map (ren R)).toArray w ∧ wfL R xs := by
  unfold srcCells at hc
  split at hc
  · rename_i a l c
    split at hc
    case h_2 => cases hc
    rename_i cs e hcs
    split at hc
    case isFalse => cases hc
    rename_i hle
    simp only [Option.some.injEq] at hc
    subst hc
    simp only [wfv] at hx
    have hspot : (⟨R.b a.block, a.off, a.spot⟩ : Addr) = ⟨R.b a.block, a.off, none⟩ := by rw [hx.2]
    refine ⟨?_, ?_⟩
    · simp only [ren, hspot, Builtin.firstCells]
      exact loadCells_ok r hcs hle
    · have hw := (wfL_iff _ _).1 (r.wf hcs)
      rw [wfL_iff]
      intro v hv
      exact hw v (List.mem_of_mem_drop (List.mem_of_mem_take hv))
  · split at hc
    case isFalse => cases hc
    simp only [Option.some.injEq] at hc
    subst hc
    exact ⟨rfl, trivial⟩
  · rename_i s
    split at hc
    case isFalse => cases hc
    rename_i hn
    simp only [Option.some.injEq] at hc
    subst hc
    subst hn
    obtain ⟨h1, h2⟩ := byteCells_plain R s
    refine ⟨?_, h2⟩
    rw [renL_eq] at h1
    rw [h1]
    simp only [ren, Builtin.firstCells, Sem.run_pure, byteCells]
    congr 1
    have he : s.extract 0 s.size = s := by
      apply ByteArray.ext
      simp [ByteArray.data_extract]
    rw [he]
    apply Array.ext'
    simp
  · cases hc

/-- In place: the new cells are written into the room behind the local block. -/
theorem appendIn_ok {P : Program} {R : Map} {h : LH} {w : World} {a : Addr} {c : List Value} {e size sLen sCap n : Nat} {xs : List Value} (r : HRel R h w.heap) (hx : (R a.block).isSome = true) (hspot : a.spot = none) (hoff : a.off = 0)
    (hc : cellsAt h a.block = some (c, e)) (he : e = 0 ∨ e = size) (hs : 0 < size) (hcap : sCap * size ≤ c.length) (hlen : sLen ≤ sCap) (hxs : xs.length = n * size) (h1 : xs.all oneCell = true) (hw : wfL R xs)
    (hneed : sLen + n ≤ sCap + R.d a.block) :
    ∃ w', (storeCells (a := (⟨R.b a.block, a.off, a.spot⟩ : Addr).add (sLen * size)) (xs.map (ren R))).run P w = .ok () w' ∧
      Goes R h w (R.put h.next (R.b a.block) (sCap + R.d a.block - (sLen + n))) ((h.kill a.block).add (.cells (c.take (sLen * size) ++ xs) size)) w' := by
  obtain ⟨cs, t, f, g1, g2, g3, g4, g5, g6⟩ := r.cells hc
  have hroom : (sCap + R.d a.block) * size ≤ c.length + R.d a.block * e := by
    rcases he with he | he
    · rw [g5 he, he]; simpa using hcap
    · rw [he, Nat.add_mul]; omega
  have hle : sLen * size + n * size ≤ c.length + R.d a.block * e := by
    have := Nat.mul_le_mul_right size hneed
    rw [Nat.add_mul] at this
    omega
  have haddr : ((⟨R.b a.block, a.off, a.spot⟩ : Addr).add (sLen * size)) = ⟨R.b a.block, sLen * size, none⟩ := by
    rw [hoff, hspot, Addr.add_mid]; simp
  rw [haddr]
  have hcell : ∀ k, k < c.length + R.d a.block * e → (w.cell? ⟨R.b a.block, k, none⟩).isSome = true := by
    intro k hk
    unfold World.cell?
    simp only [g1]
    have : k < cs.size := by omega
    simp [this]
  have hrun := run_storeCells_cells (P := P) (R.b a.block) (sLen * size) (xs.map (ren R)) 0 w
    (fun j hj => by simp only [List.length_map] at hj; exact hcell _ (by omega))
    (fun j hj => by simp only [List.length_map] at hj; exact r.notFrozen hc (by omega))
    (fun v hv => by
      obtain ⟨u, hu, rfl⟩ := List.mem_map.1 hv
      rw [oneCell_ren]
      exact List.all_eq_true.1 h1 u hu)
  simp only [Nat.add_zero] at hrun
  obtain ⟨cs', k1, k2, k3, k4, k5, k6⟩ := setCells_heap (R.b a.block) (xs.map (ren R)) (sLen * size) w cs t f g1 (by simp; omega)
  refine ⟨_, hrun, ?_⟩
  have hext : R.ext (R.put h.next (R.b a.block) (sCap + R.d a.block - (sLen + n))) := Map.put_ext (r.fresh _ (Nat.le_refl _))
  have hget : ∀ i o, ((h.kill a.block).add (.cells (c.take (sLen * size) ++ xs) size)).get i = some o →
      (i = h.next ∧ o = .cells (c.take (sLen * size) ++ xs) size) ∨ (i ≠ h.next ∧ i ≠ a.block ∧ h.get i = some o) := by
    intro i o hi
    rw [LH.get_add] at hi
    have hnext : (h.kill a.block).next = h.next := rfl
    rw [hnext] at hi
    by_cases h2 : i = h.next
    · rw [if_pos h2] at hi
      exact .inl ⟨h2, by simpa using hi.symm⟩
    · rw [if_neg h2, LH.get_kill] at hi
      by_cases h3 : i = a.block
      · rw [if_pos h3] at hi; cases hi
      · rw [if_neg h3] at hi; exact .inr ⟨h2, h3, hi⟩
  have hga := cellsAt_get hc
  have hwx := (wfL_iff _ _).1 hw
  have hwc := (wfL_iff _ _).1 g6
  have hb : ∀ i o, h.get i = some o → (R.put h.next (R.b a.block) (sCap + R.d a.block - (sLen + n))).b i = R.b i := fun i o hi => Map.ext_b hext (r.ok i o hi).1
  refine ⟨hext, fun i hi => by unfold Map.put; rw [if_neg (by omega)], ⟨?_, ?_, ?_, hext 0 _ r.glob.1, r.glob.2.1.of (k4 0 fun e => r.glob.2.2 _ _ hga e.symm), ?_⟩, Nat.le_succ _, ?_, ?_, ?_, ?_, ?_, ?_⟩
  · intro i o hi
    rcases hget i o hi with ⟨rfl, rfl⟩ | ⟨h2, h3, hi'⟩
    · refine ⟨Map.put_isSome _ _ _ _, ?_⟩
      rw [Map.put_b]
      have hl : (c.take (sLen * size) ++ xs).length = (sLen + n) * size := by
        have : sLen * size ≤ c.length := by
          have := Nat.mul_le_mul_right size hlen
          omega
        simp only [List.length_append, List.length_take, hxs, Nat.add_mul]
        omega
      have htot : (c.take (sLen * size) ++ xs).length + (sCap + R.d a.block - (sLen + n)) * size = (sCap + R.d a.block) * size := by
        rw [hl, ← Nat.add_mul]
        congr 1
        omega
      refine ⟨cs', t, f, k1, by rw [Map.put_d, htot, k2]; omega, fun k v hk => ?_, fun k hk => g4 k (by rw [Map.put_d, htot] at hk; omega), fun h0 => by omega, ?_⟩
      · have hwv : wfv R v := by
          have hm := List.mem_of_getElem? hk
          rw [List.mem_append] at hm
          rcases hm with hm | hm
          · exact hwc v (List.mem_of_mem_take hm)
          · exact hwx v hm
        rw [(ren_ext hext v hwv).1, k3 k]
        simp only [List.length_map]
        have hlt : sLen * size ≤ c.length := by
          have := Nat.mul_le_mul_right size hlen
          omega
        by_cases h4 : k < sLen * size
        · rw [if_neg (by omega)]
          rw [List.getElem?_append_left (by simp; omega)] at hk
          rw [List.getElem?_take, if_pos h4] at hk
          exact g3 k v hk
        · rw [List.getElem?_append_right (by simp; omega)] at hk
          have hlen' : (c.take (sLen * size)).length = sLen * size := by simp; omega
          rw [hlen'] at hk
          have hkx := (List.getElem?_eq_some_iff.1 hk).1
          rw [if_pos (by omega), List.getElem?_map, hk]; rfl
      · rw [wfL_iff]
        intro v hv
        rw [List.mem_append] at hv
        rcases hv with hv | hv
        · exact (ren_ext hext v (hwc v (List.mem_of_mem_take hv))).2
        · exact (ren_ext hext v (hwx v hv)).2
    · obtain ⟨h4, h5⟩ := r.ok i o hi'
      refine ⟨Map.ext_isSome hext h4, ?_⟩
      rw [hb i o hi', k4 _ (fun e => h3 (r.inj i a.block o _ hi' hga e))]
      exact h5.ext hext h4
  · intro i j oi oj hi hj e'
    rcases hget i oi hi with ⟨rfl, rfl⟩ | ⟨h2, h3, hi'⟩
    · rcases hget j oj hj with ⟨rfl, rfl⟩ | ⟨h4, h5, hj'⟩
      · rfl
      · rw [Map.put_b, hb j oj hj'] at e'
        exact absurd (r.inj a.block j _ oj hga hj' e').symm h5
    · rcases hget j oj hj with ⟨rfl, rfl⟩ | ⟨h4, h5, hj'⟩
      · rw [Map.put_b, hb i oi hi'] at e'
        exact absurd (r.inj i a.block oi _ hi' hga e') h3
      · rw [hb i oi hi', hb j oj hj'] at e'
        exact r.inj i j oi oj hi' hj' e'
  · intro i hi
    have hi' : h.next + 1 ≤ i := hi
    unfold Map.put
    rw [if_neg (by omega)]
    exact r.fresh i (by omega)
  · intro i o hi
    rcases hget i o hi with ⟨rfl, rfl⟩ | ⟨h2, h3, hi'⟩
    · rw [Map.put_b]; exact r.glob.2.2 _ _ hga
    · rw [hb i o hi']; exact r.glob.2.2 i o hi'
  · rw [k5]; exact Nat.le_refl _
  · rw [k6]
  · rw [k6]
  · rw [k6]
  · intro b hb' hno
    exact k4 b (fun e' => hno a.block _ hga e'.symm)
  · intro i o hi
    rcases hget i o hi with ⟨rfl, rfl⟩ | ⟨h2, h3, hi'⟩
    · rw [Map.put_b]; exact .inl ⟨a.block, _, hga, rfl⟩
    · exact .inl ⟨i, o, hi', (hb i o hi').symm⟩

/-- A new row with room behind it. -/
theorem newOpen_ok {R : Map} {h : LH} {w : World} {c : List Value} {size d : Nat} {rest : Array Value} (r : HRel R h w.heap) (hw : wfL R c) (hs : 0 < size) (hrest : d * size ≤ rest.size) (elem : TypeId) :
    Goes R h w (R.put h.next w.heap.size d) (h.add (.cells c size)) { w with heap := w.heap.push (.cells ((c.map (ren R)).toArray ++ rest) elem) } := by
  refine Goes.add r ?_
  have hext : R.ext (R.put h.next w.heap.size d) := Map.put_ext (r.fresh _ (Nat.le_refl _))
  refine ⟨_, elem, (0, 0), rfl, by rw [Map.put_d]; simp; omega, fun k v hk => ?_, fun k _ hk => by simp at hk, fun h0 => by omega, (renL_ext hext c hw).2⟩
  rw [(ren_ext hext v ((wfL_iff _ _).1 hw v (List.mem_of_getElem? hk))).1]
  have hlt : k < (c.map (ren R)).toArray.size := by simpa using (List.getElem?_eq_some_iff.1 hk).1
  rw [Array.getElem?_append_left hlt]
  simp [hk]

def isInt : TypeDesc → Bool
  | .int _ => true
  | _ => false
theorem isInt_match : ∀ xd : TypeDesc, ¬ isInt xd = true → (xd matches .int _) = false := by
  intro xd h
  cases xd <;> first | rfl | exact absurd rfl h
def lappend (P : Program) (h : LH) (argTypes : Array TypeId) (args : Array Value) : Option (Value × LH) :=
  match argTypes[0]?, argTypes[1]?, args[0]?, args[1]? with
  | some sType, some xType, some s, some x =>
    match P.underlying sType, P.underlying xType with
    | some (.slice elem), some xd =>
      if isInt xd = true then none else
      match P.info? elem with
      | some ie =>
        match ie.zero, srcLen x with
        | some z, some n =>
          match srcCells h ie.size n x with
          | some xs =>
            match s with
            | .slice base sLen sCap =>
              if n = 0 then (if sLen ≤ sCap then some (s, h) else none) else
              if 0 < ie.size ∧ 0 < ie.bytes ∧ 2 * (sLen + n) * ie.bytes ≤ 2 ^ 48 ∧ xs.length = n * ie.size ∧ xs.all oneCell = true ∧ z.cells.size = ie.size then
                match base with
                | none => if sLen = 0 ∧ sCap = 0 then some (.slice (some ⟨h.next, 0, none⟩) n n, h.add (.cells xs ie.size)) else none
                | some a =>
                  match cellsAt h a.block with
                  | some (c, e) =>
                    if a.off = 0 ∧ (e = 0 ∨ e = ie.size) ∧ sCap * ie.size ≤ c.length ∧ sLen ≤ sCap then
                      some (.slice (some ⟨h.next, 0, none⟩) (sLen + n) (sLen + n), (h.kill a.block).add (.cells (c.take (sLen * ie.size) ++ xs) ie.size))
                    else none
                  | none => none
              else none
            | _ => none
          | none => none
        | _, _ => none
      | none => none
    | _, _ => none
  | _, _, _, _ => none
theorem zeroCells_size (z : Array Value) (n : Nat) : (Builtin.zeroCells z n).size = n * z.size := by simp [Builtin.zeroCells]
set_option maxHeartbeats 2000000 in
theorem lappend_ok {P : Program} {R : Map} {h h' : LH} {w : World} {argTypes : Array TypeId} {type : TypeId} {args : Array Value} {v : Value} (r : HRel R h w.heap) (hx : wfA R args)
    (hv : lappend P h argTypes args = some (v, h')) : OpOk P R h w (Builtin.append_ argTypes type (renA R args)) v h' := by
  unfold lappend at hv
  split at hv
  case h_2 => cases hv
  rename_i sType xType s x ht0 ht1 ha0 ha1
  split at hv
  case h_2 => cases hv
  rename_i elem xd hu hxu
  split at hv
  case isTrue => cases hv
  rename_i hint
  split at hv
  case h_2 => cases hv
  rename_i ie hie
  split at hv
  case h_2 => cases hv
  rename_i z n hz hn
  split at hv
  case h_2 => cases hv
  rename_i xs hxs
  split at hv
  case h_2 => cases hv
  rename_i base sLen sCap
  rw [wfA_iff] at hx
  have hws := hx _ (Array.mem_of_getElem? ha0)
  have hwx := hx _ (Array.mem_of_getElem? ha1)
  have hr0 : (renA R args)[0]? = some (ren R (.slice base sLen sCap)) := by rw [renA_eq]; simp [ha0]
  have hr1 : (renA R args)[1]? = some (ren R x) := by rw [renA_eq]; simp [ha1]
  obtain ⟨hsrc, hwxs⟩ := srcCells_ok (P := P) r hwx hxs
  have hlen := srcLen_ok (P := P) (R := R) (w := w) hn
  split at hv
  · rename_i hn0
    split at hv
    case isFalse => cases hv
    rename_i hle
    simp only [Option.some.injEq, Prod.mk.injEq] at hv
    obtain ⟨rfl, rfl⟩ := hv
    subst hn0
    have hx0 : xs = [] := by
      unfold srcCells at hxs
      split at hxs
      · split at hxs
        · split at hxs
          · simp at hxs; exact hxs
          · cases hxs
        · cases hxs
      · simp at hxs; exact hxs
      · rename_i s
        split at hxs
        · rename_i h0
          simp only [Option.some.injEq] at hxs
          subst hxs
          have : s.data.toList.length = 0 := by simpa using h0.symm
          simp [byteCells, List.eq_nil_of_length_eq_zero this]
        · cases hxs
      · cases hxs
    subst hx0
    simp only [List.map_nil] at hsrc
    cases base with
    | none =>
      refine ⟨R, w, ?_, hws, Goes.refl r⟩
      simp only [ren] at hr0 ⊢
      cases xd <;> first
        | exact absurd rfl hint
        | simp only [Builtin.append_, ht0, ht1, hr0, hr1, Sem.run_bind, run_underlying hu, run_underlying hxu, Result.andThen_ok, sizeOf, typeInfo, run_program, hie, Sem.run_pure, Bool.false_eq_true, if_false, hlen,
            Nat.add_zero, if_pos hle, Bool.not_false, if_true, hsrc]
    | some a =>
      refine ⟨R, w, ?_, hws, Goes.refl r⟩
      simp only [ren] at hr0 ⊢
      have hle' : sLen ≤ sCap + R.d a.block := by omega
      cases xd <;> first
        | exact absurd rfl hint
        | simp only [Builtin.append_, ht0, ht1, hr0, hr1, Sem.run_bind, run_underlying hu, run_underlying hxu, Result.andThen_ok, sizeOf, typeInfo, run_program, hie, Sem.run_pure, Bool.false_eq_true, if_false, hlen,
            Nat.add_zero, if_pos hle', Bool.not_false, if_true, hsrc, storeCells, List.map_nil]
  · rename_i hn0
    split at hv
    case isFalse => cases hv
    rename_i hcond
    obtain ⟨hsz, hby, hroom, hxl, hone, hzs⟩ := hcond
    have hbz : ie.bytes ≠ 0 := by omega
    -- the model moves to a new row
    have grow : ∀ (cap : Nat) (old : List Value), cap < sLen + n → wfL R old → old.length = sLen * ie.size →
        ∀ base' : Option Addr, (∀ w1 : World, HRel R h w1.heap → (Builtin.firstCells ie.size sLen (.slice base' sLen cap)).run P w1 = .ok (old.map (ren R)).toArray w1) →
        (renA R args)[0]? = some (.slice base' sLen cap) →
        OpOk P R h w (Builtin.append_ argTypes type (renA R args)) (.slice (some ⟨h.next, 0, none⟩) (sLen + n) (sLen + n)) (h.add (.cells (old ++ xs) ie.size)) := by
      intro cap old hcap hold hol base' hfirst hr0'
      let q := Question.appendCap (sLen + n) cap elem
      let nc := q.cut (w.tape w.drawn q)
      have hnc : sLen + n ≤ nc := by simp only [nc, q, Question.cut]; omega
      let w1 : World := { w with drawn := w.drawn + 1 }
      have hch : (choose q).run P w = .ok nc w1 := by rw [run_choose]; rfl
      have g1 := Goes.drew (w := w) r (w.drawn + 1)
      have hfit : ¬ (Builtin.nextslicecap (sLen + n) cap * ie.bytes > 2 ^ 48) := by
        have := Room.nextslicecap_le' hcap
        have := Nat.mul_le_mul_right ie.bytes this
        omega
      have hfirst1 := hfirst w1 g1.rel
      have hsrc1 : (Builtin.firstCells ie.size n (ren R x)).run P w1 = .ok (xs.map (ren R)).toArray w1 := (srcCells_ok (P := P) (w := w1) g1.rel hwx hxs).1
      have g2 := newOpen_ok (w := w1) (c := old ++ xs) (size := ie.size) (d := nc - (sLen + n)) (rest := Builtin.zeroCells z.cells (nc - (sLen + n))) g1.rel
        (by rw [wfL_iff] at hold hwxs ⊢; intro v hv; rw [List.mem_append] at hv; exact hv.elim (hold v) (hwxs v)) hsz (by rw [zeroCells_size, hzs]; exact Nat.le_refl _) elem
      refine ⟨_, _, ?_, ⟨Map.put_isSome _ _ _ _, rfl⟩, g1.trans g2⟩
      have hrow : ((old ++ xs).map (ren R)).toArray ++ Builtin.zeroCells z.cells (nc - (sLen + n)) = (old.map (ren R)).toArray ++ (xs.map (ren R)).toArray ++ Builtin.zeroCells z.cells (nc - (sLen + n)) := by simp
      have hnew : (newRow elem ((old.map (ren R)).toArray ++ (xs.map (ren R)).toArray ++ Builtin.zeroCells z.cells (nc - (sLen + n)))).run P w1 =
          .ok ⟨w1.heap.size, 0, none⟩ { w1 with heap := w1.heap.push (.cells (((old ++ xs).map (ren R)).toArray ++ Builtin.zeroCells z.cells (nc - (sLen + n))) elem) } := by
        rw [hrow]; simp [newRow]
      have hneed : ¬ (sLen + n ≤ cap) := by omega
      have hren : ren (R.put h.next w1.heap.size (nc - (sLen + n))) (.slice (some ⟨h.next, 0, none⟩) (sLen + n) (sLen + n)) = .slice (some ⟨w1.heap.size, 0, none⟩) (sLen + n) nc := by
        simp only [ren, Map.put_b, Map.put_d]
        congr 1
        omega
      rw [hren]
      cases xd <;> first
        | exact absurd rfl hint
        | (simp only [Builtin.append_, ht0, ht1, hr0', hr1, Sem.run_bind, run_underlying hu, run_underlying hxu, Result.andThen_ok, sizeOf, typeInfo, run_program, hie, Sem.run_pure, Bool.false_eq_true, if_false, hlen, if_neg hneed,
            false_or, hbz, and_false, if_neg hfit, Bool.not_false, if_true, zeroValue, hz, run_askRoom]
           show ((choose q).run P w).andThen _ = _
           rw [hch]
           simp only [Result.andThen_ok, Sem.run_bind, run_askRoom, hfirst1, hsrc1, hnew, Sem.run_pure])
    split at hv
    · split at hv
      case isFalse => cases hv
      rename_i h0
      obtain ⟨rfl, rfl⟩ := h0
      simp only [Option.some.injEq, Prod.mk.injEq] at hv
      obtain ⟨rfl, rfl⟩ := hv
      have := grow 0 [] (by omega) trivial (by simp) none (fun _ _ => rfl) hr0
      simpa using this
    · rename_i a
      split at hv
      case h_2 => cases hv
      rename_i c e hc
      split at hv
      case isFalse => cases hv
      rename_i h2
      obtain ⟨hoff, he, hcap, hlc⟩ := h2
      simp only [Option.some.injEq, Prod.mk.injEq] at hv
      obtain ⟨rfl, rfl⟩ := hv
      simp only [wfv] at hws
      have hspot : (⟨R.b a.block, a.off, a.spot⟩ : Addr) = ⟨R.b a.block, a.off, none⟩ := by rw [hws.2]
      have hsl : sLen * ie.size ≤ c.length := by
        have := Nat.mul_le_mul_right ie.size hlc
        omega
      by_cases hneed : sLen + n ≤ sCap + R.d a.block
      · obtain ⟨w', hst, hg⟩ := appendIn_ok (P := P) r hws.1 hws.2 hoff hc he hsz hcap hlc hxl hone hwxs hneed
        refine ⟨_, w', ?_, ⟨Map.put_isSome _ _ _ _, rfl⟩, hg⟩
        simp only [ren] at hr0
        have hren : ren (R.put h.next (R.b a.block) (sCap + R.d a.block - (sLen + n))) (.slice (some ⟨h.next, 0, none⟩) (sLen + n) (sLen + n)) = .slice (some ⟨R.b a.block, a.off, a.spot⟩) (sLen + n) (sCap + R.d a.block) := by
          simp only [ren, Map.put_b, Map.put_d, hoff, hws.2]
          congr 1
          omega
        rw [hren]
        cases xd <;> first
          | exact absurd rfl hint
          | simp only [Builtin.append_, ht0, ht1, hr0, hr1, Sem.run_bind, run_underlying hu, run_underlying hxu, Result.andThen_ok, sizeOf, typeInfo, run_program, hie, Sem.run_pure, Bool.false_eq_true, if_false, hlen, if_pos hneed,
              Bool.not_false, if_true, hsrc, hst]
      · have hgrow := grow (sCap + R.d a.block) (c.take (sLen * ie.size)) (by omega)
          (by have := (wfL_iff _ _).1 (r.wf hc); rw [wfL_iff]; intro v hv; exact this v (List.mem_of_mem_take hv)) (by simp; omega) (some ⟨R.b a.block, a.off, a.spot⟩)
          (fun w1 r1 => by
            simp only [Builtin.firstCells, hws.2, hoff]
            have := loadCells_ok (P := P) r1 hc (o := 0) (n := sLen * ie.size) (by omega)
            simpa using this) hr0
        obtain ⟨R', w', hrun, hwf, hg⟩ := hgrow
        refine ⟨R', w', hrun, hwf, ?_⟩
        -- forget the old block, too
        have hk := Goes.kill hg.rel a.block
        have hlt := r.lt hws.1
        have heq : (h.add (.cells (c.take (sLen * ie.size) ++ xs) ie.size)).kill a.block = ((h.kill a.block).add (.cells (c.take (sLen * ie.size) ++ xs) ie.size)) ∨ True := .inr trivial
        refine ⟨hg.ext, hg.old, ⟨?_, ?_, hg.rel.fresh, hg.rel.glob.1, hg.rel.glob.2.1, ?_⟩, hg.next, hg.size, hg.os, hg.tape, hg.output, hg.frame, ?_⟩
        all_goals
          have hsub : ∀ i o, ((h.kill a.block).add (.cells (c.take (sLen * ie.size) ++ xs) ie.size)).get i = some o → (h.add (.cells (c.take (sLen * ie.size) ++ xs) ie.size)).get i = some o := by
            intro i o hi
            rw [LH.get_add] at hi ⊢
            have hnext : (h.kill a.block).next = h.next := rfl
            rw [hnext] at hi
            by_cases h2 : i = h.next
            · rw [if_pos h2] at hi ⊢; exact hi
            · rw [if_neg h2, LH.get_kill] at hi
              rw [if_neg h2]
              by_cases h3 : i = a.block
              · rw [if_pos h3] at hi; cases hi
              · rw [if_neg h3] at hi; exact hi
        · intro i o hi; exact hg.rel.ok i o (hsub i o hi)
        · intro i j oi oj hi hj; exact hg.rel.inj i j oi oj (hsub i oi hi) (hsub j oj hj)
        · intro i o hi; exact hg.rel.glob.2.2 i o (hsub i o hi)
        · intro i o hi; exact hg.img i o (hsub i o hi)
end
end Go.Proofs.YtedfhallhpkkhaaGreatDoor.X
/- Maps and slices made anew, comparisons with nil, on the local heap. Any program. -/
namespace Go.Proofs.YtedfhallhpkkhaaGreatDoor.X
open Go
noncomputable section

def mapAt (h : LH) (i : Nat) : Option (List MapEntry × Nat) :=
  match h.get i with
  | some (.map es clock) => some (es, clock)
  | _ => none
theorem mapAt_get {h : LH} {i : Nat} {es : List MapEntry} {c : Nat} (hm : mapAt h i = some (es, c)) : h.get i = some (.map es c) := by
  unfold mapAt at hm
  split at hm
  · rename_i es' c' hg
    simp only [Option.some.injEq, Prod.mk.injEq] at hm
    obtain ⟨rfl, rfl⟩ := hm
    exact hg
  · cases hm
theorem run_getObj_eq {P : Program} {w : World} {r : Nat} {o : Obj} (h : w.heap[r]? = some o) (hc : ∀ c t f, o ≠ .cells c t f) : (getObj r).run P w = .ok o w := by
  simp only [getObj, Sem.run, h]
theorem getMap_ok {P : Program} {R : Map} {h : LH} {w : World} (r : HRel R h w.heap) {i : Nat} {es : List MapEntry} {c : Nat} (hm : mapAt h i = some (es, c)) :
    (getObj (R.b i)).run P w = .ok (.map (es.map (renE R)).toArray c) w ∧ (∀ e ∈ es, wfv R e.key ∧ wfv R e.val) := by
  obtain ⟨_, h1, h2⟩ := r.ok i _ (mapAt_get hm)
  exact ⟨run_getObj_eq h1 (fun _ _ _ e => by cases e), h2⟩
theorem setObj_ok {P : Program} {R : Map} {h : LH} {w : World} (r : HRel R h w.heap) {i : Nat} {o o' : LO} {x x' : Obj} (hi : h.get i = some o) (hx : w.heap[R.b i]? = some x) (hc : ∀ c t f, x ≠ .cells c t f)
    (ho : ORel R i o' (some x')) : ∃ w', (setObj (R.b i) x').run P w = .ok () w' ∧ Goes R h w R (h.put i o') w' := by
  have hlt : R.b i < w.heap.size := (Array.getElem?_eq_some_iff.1 hx).1
  refine ⟨{ w with heap := w.heap.setIfInBounds (R.b i) x' }, ?_, ?_⟩
  · simp only [setObj, Sem.run, hx]
  · refine Goes.put r hi (by simp) ?_ (fun b hb => by rw [Array.getElem?_setIfInBounds_ne (fun e => hb e.symm)])
    rw [Array.getElem?_setIfInBounds_self_of_lt hlt]
    exact ho
theorem newObj_ok {P : Program} {R : Map} {h : LH} {w : World} (r : HRel R h w.heap) {o : LO} {x : Obj} (ho : ORel (R.put h.next w.heap.size 0) h.next o (some x)) :
    ∃ R' w', (newObj x).run P w = .ok (R'.b h.next) w' ∧ (R' h.next).isSome = true ∧ Goes R h w R' (h.add o) w' :=
  ⟨R.put h.next w.heap.size 0, { w with heap := w.heap.push x }, by rw [Map.put_b]; rfl, Map.put_isSome _ _ _ _, Goes.add r ho⟩

/-! ### make -/
def lmakeMap (h : LH) : Value × LH := (.map (some h.next), h.add (.map [] 0))
theorem lmakeMap_ok {P : Program} {R : Map} {h : LH} {w : World} (r : HRel R h w.heap) (t : TypeId) : OpOk P R h w (Instr.makeMap t none) (lmakeMap h).1 (lmakeMap h).2 := by
  obtain ⟨R', w', h1, h2, h3⟩ := newObj_ok (P := P) (o := .map [] 0) (x := .map #[] 0) r ⟨rfl, fun e he => by cases he⟩
  refine ⟨R', w', ?_, h2, h3⟩
  simp [Instr.makeMap, h1, lmakeMap, ren]
def lmakeMapHint (P : Program) (h : LH) (t : TypeId) (x : Value) : Option (Value × LH) :=
  match P.underlying t, x with
  | some (.map _ _), .int _ _ => some (lmakeMap h)
  | _, _ => none
theorem lmakeMapHint_ok {P : Program} {R : Map} {h h' : LH} {w : World} {t : TypeId} {x v : Value} (r : HRel R h w.heap) (hv : lmakeMapHint P h t x = some (v, h')) :
    OpOk P R h w (Instr.makeMap t (some (ren R x))) v h' := by
  unfold lmakeMapHint at hv
  split at hv
  case h_2 => cases hv
  rename_i k e kk n hu
  simp only [Option.some.injEq] at hv
  obtain ⟨R', w', h1, h2, h3⟩ := newObj_ok (P := P) (o := .map [] 0) (x := .map #[] 0) r ⟨rfl, fun e he => by cases he⟩
  have e1 : v = (lmakeMap h).1 := by rw [hv]
  have e2 : h' = (lmakeMap h).2 := by rw [hv]
  subst e1; subst e2
  refine ⟨R', w', ?_, h2, h3⟩
  simp [Instr.makeMap, h1, lmakeMap, ren, run_underlying hu, asInt, asIntOf]
def lmakeSlice (P : Program) (h : LH) (t : TypeId) (len cap : Value) : Option (Value × LH) :=
  match P.underlying t, len, cap with
  | some (.slice elem), .int _ l, .int _ c =>
    match P.info? elem with
    | some ie =>
      match ie.zero with
      | some z =>
        if 0 ≤ l ∧ l ≤ c ∧ c ≤ 1000000 ∧ ie.bytes * 1000000 ≤ 281474976710656 then
          if plainA (tile (c.toNat * ie.size) z) = true then some (.slice (some ⟨h.next, 0, none⟩) l.toNat c.toNat, h.add (.cells (tile (c.toNat * ie.size) z).toList 0)) else none
        else none
      | none => none
    | none => none
  | _, _, _ => none
theorem wrap_small {c : Int} (h0 : 0 ≤ c) (h1 : c ≤ 1000000) : IntKind.i64.wrap c = c := IntWalk.i64_in c (by omega)
set_option maxRecDepth 100000 in
theorem lmakeSlice_ok {P : Program} {R : Map} {h h' : LH} {w : World} {t : TypeId} {len cap v : Value} (r : HRel R h w.heap) (hv : lmakeSlice P h t len cap = some (v, h')) :
    OpOk P R h w (Instr.makeSlice t (ren R len) (ren R cap)) v h' := by
  unfold lmakeSlice at hv
  split at hv
  case h_2 => cases hv
  rename_i elem k1 l k2 c hu
  split at hv
  case h_2 => cases hv
  rename_i ie hie
  split at hv
  case h_2 => cases hv
  rename_i z hz
  split at hv
  case isFalse => cases hv
  rename_i hcond
  obtain ⟨h0, h1, h2, h3⟩ := hcond
  split at hv
  case isFalse => cases hv
  rename_i hpl
  simp only [Option.some.injEq, Prod.mk.injEq] at hv
  obtain ⟨rfl, rfl⟩ := hv
  obtain ⟨hpr, hpw⟩ := plainA_ren R _ hpl
  have hwl : wfL R (tile (c.toNat * ie.size) z).toList := by
    rw [wfL_iff]; rw [wfA_iff] at hpw; intro x hx; exact hpw x (by simpa using hx)
  obtain ⟨R', w', g1, g2, g3, g4⟩ := newRow_ok (P := P) r hwl elem
  refine ⟨R', w', ?_, ⟨g2, rfl⟩, g4⟩
  have hrow : (((tile (c.toNat * ie.size) z).toList).map (ren R)).toArray = tile (c.toNat * ie.size) z := by
    rw [renA_eq] at hpr
    conv => rhs; rw [← hpr]
    apply Array.ext'
    simp
  rw [hrow] at g1
  have wl : IntKind.i64.wrap l = l := wrap_small h0 (by omega)
  have wc : IntKind.i64.wrap c = c := wrap_small (by omega) h2
  have hb : ¬ (ie.bytes * c > 2 ^ 48) := by
    have h4 : (ie.bytes : Int) * c ≤ ie.bytes * 1000000 := Int.mul_le_mul_of_nonneg_left h2 (by omega)
    have h6 : (2 ^ 48 : Int) = 281474976710656 := rfl
    rw [h6]
    omega
  have hbad : ¬ ((decide (c < 0) || decide ((ie.bytes : Int) * c > 2 ^ 48) || decide (l < 0) || decide (l > c)) = true) := by
    simp only [Bool.or_eq_true, decide_eq_true_eq]
    rintro (((h4 | h4) | h4) | h4)
    · omega
    · exact hb h4
    · omega
    · omega
  simp only [Instr.makeSlice, Sem.run_bind, run_underlying hu w, Result.andThen_ok, asInt, asIntOf, ren, Sem.run_pure, typeInfo, run_program, hie, wl, wc]
  rw [if_neg hbad]
  simp only [Sem.run_bind, run_askRoom, Result.andThen_ok, sizeOf, typeInfo, run_program, hie, Sem.run_pure]
  by_cases hn : c.toNat * ie.size = 0
  · simp only [tile, zcs, if_pos hn] at g1
    rw [if_pos hn]
    simp only [Sem.run_bind, Sem.run_pure, Result.andThen_ok, g1, g3, Nat.add_zero]
  · simp only [tile, zcs, if_neg hn] at g1
    rw [if_neg hn]
    simp only [Sem.run_bind, zeroValue, typeInfo, run_program, hie, hz, Sem.run_pure, Result.andThen_ok, g1, g3, Nat.add_zero]

/-! ### Looking a key up -/
def renHit (R : Map) (x : Option (Nat × Value)) : Option (Nat × Value) := x.map fun p => (p.1, ren R p.2)
theorem findNow_ren (R : Map) (kind : TypeDesc) (k : Value) : ∀ (es : List MapEntry) (i : Nat), (∀ e ∈ es, plain e.key = true) →
    Instr.findNow kind k (es.map (renE R)) i = (Instr.findNow kind k es i).map (renHit R)
  | [], _, _ => rfl
  | e :: es, i, h => by
    have hk : (renE R e).key = e.key := (plain_ren R _ (h e (by simp))).1
    simp only [List.map_cons, Instr.findNow, hk]
    cases Instr.sameNow kind k e.key with
    | none => rfl
    | some b =>
      cases b with
      | true => rfl
      | false => exact findNow_ren R kind k es (i + 1) (fun e he => h e (by simp [he]))
theorem runP_bind {α β : Type} {P : Program} {s : Sem α} {f : α → Sem β} {b : β} (h : runP P (s >>= f) = some b) : ∃ a, runP P s = some a ∧ runP P (f a) = some b := by
  induction s with
  | pure a => exact ⟨a, rfl, h⟩
  | program k ih => exact ih P h
  | mark m k ih => exact ih h
  | _ => simp [bind, Sem.bind, runP] at h
theorem findAsking_ren {P : Program} (R : Map) (kt : TypeId) (k : Value) (w : World) : ∀ (es : List MapEntry) (i : Nat) (x : Option (Nat × Value)), (∀ e ∈ es, plain e.key = true) →
    runP P (Instr.findAsking kt k es i) = some x → (Instr.findAsking kt k (es.map (renE R)) i).run P w = .ok (renHit R x) w
  | [], i, x, _, h => by
    simp only [Instr.findAsking] at h
    have : x = none := by
      have h' : some (none : Option (Nat × Value)) = some x := h
      simpa using h'.symm
    subst this
    rfl
  | e :: es, i, x, hp, h => by
    have hk : (renE R e).key = e.key := (plain_ren R _ (hp e (by simp))).1
    simp only [Instr.findAsking] at h
    obtain ⟨b, hb, h⟩ := runP_bind h
    simp only [List.map_cons, Instr.findAsking, hk, Sem.run_bind, runP_run hb w, Result.andThen_ok]
    cases b with
    | true =>
      simp only [if_true] at h ⊢
      have h' : some (some (i, e.val)) = some x := h
      simp only [Option.some.injEq] at h'
      subst h'
      rfl
    | false =>
      simp only [Bool.false_eq_true, if_false] at h ⊢
      exact findAsking_ren R kt k w es (i + 1) x (fun e he => hp e (by simp [he])) h
theorem findKey_ren {P : Program} (R : Map) {kt : TypeId} {k : Value} (w : World) {es : List MapEntry} {x : Option (Nat × Value)} (hp : ∀ e ∈ es, plain e.key = true)
    (h : runP P (Instr.findKey kt k es) = some x) : (Instr.findKey kt k (es.map (renE R))).run P w = .ok (renHit R x) w := by
  unfold Instr.findKey at h ⊢
  obtain ⟨d, hd, h⟩ := runP_bind h
  simp only [Sem.run_bind, runP_run hd w, Result.andThen_ok, findNow_ren R d k es 0 hp]
  cases hf : Instr.findNow d k es 0 with
  | none =>
    rw [hf] at h
    simp only [Option.map_none] at h ⊢
    exact findAsking_ren R kt k w es 0 x hp h
  | some y =>
    rw [hf] at h
    simp only [Option.map_some] at h ⊢
    have h' : some y = some x := h
    simp only [Option.some.injEq] at h'
    subst h'
    rfl
theorem findNow_val {kind : TypeDesc} {k : Value} : ∀ {es : List MapEntry} {i j : Nat} {v : Value}, Instr.findNow kind k es i = some (some (j, v)) → ∃ e ∈ es, e.val = v
  | [], _, _, _, h => by simp [Instr.findNow] at h
  | e :: es, i, j, v, h => by
    simp only [Instr.findNow] at h
    split at h
    · simp only [Option.some.injEq, Prod.mk.injEq] at h; exact ⟨e, by simp, h.2⟩
    · obtain ⟨e', he, hv⟩ := findNow_val h; exact ⟨e', by simp [he], hv⟩
    · cases h
theorem findAsking_val {P : Program} {kt : TypeId} {k : Value} : ∀ {es : List MapEntry} {i j : Nat} {v : Value}, runP P (Instr.findAsking kt k es i) = some (some (j, v)) → ∃ e ∈ es, e.val = v
  | [], _, _, _, h => by
    simp only [Instr.findAsking] at h
    have h' : some (none : Option (Nat × Value)) = some (some _) := h
    simp at h'
  | e :: es, i, j, v, h => by
    simp only [Instr.findAsking] at h
    obtain ⟨b, hb, h⟩ := runP_bind h
    cases b with
    | true =>
      simp only [if_true] at h
      have h' : some (some (i, e.val)) = some (some (j, v)) := h
      simp only [Option.some.injEq, Prod.mk.injEq] at h'
      exact ⟨e, by simp, h'.2⟩
    | false =>
      simp only [Bool.false_eq_true, if_false] at h
      obtain ⟨e', he, hv⟩ := findAsking_val h
      exact ⟨e', by simp [he], hv⟩
theorem findKey_val {P : Program} {kt : TypeId} {k : Value} {es : List MapEntry} {j : Nat} {v : Value} (h : runP P (Instr.findKey kt k es) = some (some (j, v))) : ∃ e ∈ es, e.val = v := by
  unfold Instr.findKey at h
  obtain ⟨d, hd, h⟩ := runP_bind h
  cases hf : Instr.findNow d k es 0 with
  | none => rw [hf] at h; exact findAsking_val h
  | some y =>
    rw [hf] at h
    have h' : some y = some (some (j, v)) := h
    simp only [Option.some.injEq] at h'
    subst h'
    exact findNow_val hf

def llookup (P : Program) (h : LH) (t : TypeId) (x ix : Value) (commaOk : Bool) : Option Value :=
  match P.underlying t with
  | some (.map key elem) =>
    match (match x with | .map none => some [] | .map (some r) => (mapAt h r).map (·.1) | _ => none : Option (List MapEntry)) with
    | some es =>
      if plain ix = true ∧ es.all (fun e => plain e.key) = true then
        match runP P (Instr.checkKey es.isEmpty 10000 key ix), runP P (Instr.findKey key ix es) with
        | some _, some (some (_, v)) => some (if commaOk = true then .tuple #[v, .bool true] else v)
        | some _, some none =>
          match P.info? elem with
          | some ie => match ie.zero with
            | some z => if plain z = true then some (if commaOk = true then .tuple #[z, .bool false] else z) else none
            | none => none
          | none => none
        | _, _ => none
      else none
    | none => none
  | _ => none
theorem llookup_ok {P : Program} {R : Map} {h : LH} {w : World} {t : TypeId} {x ix v : Value} {ok : Bool} (r : HRel R h w.heap) (hv : llookup P h t x ix ok = some v) :
    (Instr.lookup t (ren R x) (ren R ix) ok).run P w = .ok (ren R v) w ∧ wfv R v := by
  unfold llookup at hv
  split at hv
  case h_2 => cases hv
  rename_i key elem hu
  split at hv
  case h_2 => cases hv
  rename_i es hes
  split at hv
  case isFalse => cases hv
  rename_i hp
  have hix := (plain_ren R ix hp.1).1
  have hpk : ∀ e ∈ es, plain e.key = true := List.all_eq_true.1 hp.2
  have hcase : ((ren R x = .map none ∧ es = []) ∨ ∃ b clk, ren R x = .map (some b) ∧ (getObj b).run P w = .ok (.map (es.map (renE R)).toArray clk) w) ∧ ∀ e ∈ es, wfv R e.key ∧ wfv R e.val := by
    split at hes
    · simp only [Option.some.injEq] at hes; subst hes; exact ⟨.inl ⟨rfl, rfl⟩, fun e he => by cases he⟩
    · rename_i i
      simp only [Option.map_eq_some_iff] at hes
      obtain ⟨⟨es', c⟩, hm, rfl⟩ := hes
      obtain ⟨h1, h2⟩ := getMap_ok (P := P) r hm
      exact ⟨.inr ⟨_, _, rfl, h1⟩, h2⟩
    · cases hes
  obtain ⟨hcase, hwf⟩ := hcase
  have hemp : (es.map (renE R)).toArray.isEmpty = es.isEmpty := by cases es <;> simp
  split at hv
  · rename_i u j v' hck hfk
    simp only [Option.some.injEq] at hv
    have hf := findKey_ren R w hpk hfk
    obtain ⟨e, he, hev⟩ := findKey_val hfk
    have hwv : wfv R v' := hev ▸ (hwf e he).2
    have hfin : ren R v = (if ok = true then .tuple #[ren R v', .bool true] else ren R v') ∧ wfv R v := by
      subst hv
      cases ok
      · exact ⟨rfl, hwv⟩
      · exact ⟨by simp [ren, renA, renL], hwv, trivial, trivial⟩
    refine ⟨?_, hfin.2⟩
    rcases hcase with ⟨hx0, hnil⟩ | ⟨b, clk, hx1, hg⟩
    · subst hnil; cases he
    · simp only [Instr.lookup, hx1, hg, Sem.run_bind, run_underlying hu w, hemp, hix, runP_run hck w, Result.andThen_ok, hf, renHit, Option.map_some, Sem.run_pure, hfin.1]
  · rename_i u hck hfk
    split at hv
    case h_2 => cases hv
    rename_i ie hie
    split at hv
    case h_2 => cases hv
    rename_i z hz
    split at hv
    case isFalse => cases hv
    rename_i hpz
    obtain ⟨hzr, hzw⟩ := plain_ren R z hpz
    simp only [Option.some.injEq] at hv
    have hf := findKey_ren R w hpk hfk
    have hfin : ren R v = (if ok = true then .tuple #[z, .bool false] else z) ∧ wfv R v := by
      subst hv
      cases ok
      · exact ⟨hzr, hzw⟩
      · exact ⟨by simp [ren, renA, renL, hzr], hzw, trivial, trivial⟩
    refine ⟨?_, hfin.2⟩
    rcases hcase with ⟨hx0, hnil⟩ | ⟨b, clk, hx1, hg⟩
    · subst hnil
      simp only [List.map_nil] at hf
      have hck' := runP_run hck w
      simp only [List.isEmpty_nil] at hck'
      simp only [Instr.lookup, hx0, Sem.run_bind, run_underlying hu w, hix, Array.isEmpty_empty, hck', Result.andThen_ok, hf, renHit, Option.map_none, zeroValue, typeInfo, run_program, hie, Sem.run_pure, hz, hfin.1]
    · simp only [Instr.lookup, hx1, hg, Sem.run_bind, run_underlying hu w, hemp, hix, runP_run hck w, Result.andThen_ok, hf, renHit, Option.map_none, zeroValue, typeInfo, run_program, hie, Sem.run_pure, hz, hfin.1]
  · cases hv
end
end Go.Proofs.YtedfhallhpkkhaaGreatDoor.X
/- Writing maps, lengths, comparisons with nil, on the local heap. Any program. -/
namespace Go.Proofs.YtedfhallhpkkhaaGreatDoor.X
open Go
noncomputable section

theorem map_modify (R : Map) (es : List MapEntry) (i : Nat) (f f' : MapEntry → MapEntry) (hf : ∀ e ∈ es, renE R (f e) = f' (renE R e)) :
    (es.map (renE R)).toArray.modify i f' = ((es.modify i f).map (renE R)).toArray := by
  apply Array.ext_getElem?
  intro k
  simp only [Array.getElem?_modify, List.getElem?_toArray, List.getElem?_map, List.getElem?_modify]
  by_cases h : i = k
  · subst h
    simp only [if_true]
    cases hk : es[i]? with
    | none => rfl
    | some e => simp [hf e (List.mem_of_getElem? hk)]
  · simp [if_neg h]
theorem mem_modify {es : List MapEntry} {i : Nat} {f : MapEntry → MapEntry} {x : MapEntry} (h : x ∈ es.modify i f) : x ∈ es ∨ ∃ e ∈ es, x = f e := by
  obtain ⟨k, hk⟩ := List.mem_iff_getElem?.1 h
  rw [List.getElem?_modify] at hk
  cases he : es[k]? with
  | none => rw [he] at hk; simp at hk
  | some e =>
    rw [he] at hk
    by_cases hik : i = k
    · simp [hik] at hk; exact .inr ⟨e, List.mem_of_getElem? he, hk.symm⟩
    · simp [hik] at hk; exact .inl (hk ▸ List.mem_of_getElem? he)

/-- Where a key is in a local map: none: it is not there. -/
def lfind (P : Program) (kt : TypeId) (k : Value) (es : List MapEntry) : Option (Option (Nat × Value)) :=
  if plain k = true ∧ es.all (fun e => plain e.key) = true then
    match runP P (Instr.checkKey false 10000 kt k) with
    | some _ => runP P (Instr.findKey kt k es)
    | none => none
  else none
def lstays (P : Program) (es : List MapEntry) (i : Nat) (k : Value) : Option Value :=
  match runP P (Instr.keyThatStays (((es[i]?).map (·.key)).getD k) k) with
  | some k' => if plain k' = true then some k' else none
  | none => none
theorem key_at (R : Map) {es : List MapEntry} (hp : ∀ e ∈ es, plain e.key = true) (i : Nat) (k : Value) :
    ((((es.map (renE R)).toArray)[i]?).map (·.key)).getD k = ((es[i]?).map (·.key)).getD k := by
  simp only [List.getElem?_toArray, List.getElem?_map]
  cases h : es[i]? with
  | none => rfl
  | some e => simp [renE, (plain_ren R _ (hp e (List.mem_of_getElem? h))).1]
def lmapUpdate (P : Program) (h : LH) (t : TypeId) (m k v : Value) : Option LH :=
  match P.underlying t, m with
  | some (.map kt _), .map (some r) =>
    match mapAt h r with
    | some (es, clk) =>
      match lfind P kt k es with
      | some (some (i, _)) =>
        match lstays P es i k with
        | some k' => some (h.put r (.map (es.modify i fun e => { e with key := k', val := v }) clk))
        | none => none
      | some none => some (h.put r (.map (es ++ [{ key := k, val := v, born := clk }]) (clk + 1)))
      | none => none
    | none => none
  | _, _ => none
theorem lmapUpdate_ok {P : Program} {R : Map} {h h' : LH} {w : World} {t : TypeId} {m k v : Value} (r : HRel R h w.heap) (hwv : wfv R v) (hv : lmapUpdate P h t m k v = some h') :
    ∃ w', (Instr.mapUpdate t (ren R m) (ren R k) (ren R v)).run P w = .ok () w' ∧ Goes R h w R h' w' := by
  unfold lmapUpdate at hv
  split at hv
  case h_2 => cases hv
  rename_i kt elem i hu
  split at hv
  case h_2 => cases hv
  rename_i es clk hm
  obtain ⟨hget, hwf⟩ := getMap_ok (P := P) r hm
  have hheap : w.heap[R.b i]? = some (.map (es.map (renE R)).toArray clk) := (r.ok i _ (mapAt_get hm)).2.1
  cases hl : lfind P kt k es with
  | none => rw [hl] at hv; cases hv
  | some x =>
    rw [hl] at hv
    unfold lfind at hl
    split at hl
    case isFalse => cases hl
    rename_i hp
    split at hl
    case h_2 => cases hl
    rename_i u hck
    have hk := (plain_ren R k hp.1)
    have hpk : ∀ e ∈ es, plain e.key = true := List.all_eq_true.1 hp.2
    have hf := findKey_ren R w hpk hl
    cases x with
    | none =>
      simp only [Option.some.injEq] at hv
      subst hv
      obtain ⟨w', hr, hg⟩ := setObj_ok (P := P) r (mapAt_get hm) hheap (fun _ _ _ e => by cases e)
        (o' := .map (es ++ [{ key := k, val := v, born := clk }]) (clk + 1)) (x' := .map ((es.map (renE R)).toArray.push { key := k, val := ren R v, born := clk }) (clk + 1))
        ⟨by simp [renE, hk.1], fun e he => by
          rw [List.mem_append] at he
          rcases he with he | he
          · exact hwf e he
          · simp only [List.mem_singleton] at he; subst he; exact ⟨hk.2, hwv⟩⟩
      refine ⟨w', ?_, hg⟩
      simp only [Instr.mapUpdate, ren, Sem.run_bind, run_underlying hu w, Result.andThen_ok, hget, hk.1, runP_run hck w, hf, renHit, Option.map_none, hr]
    | some p =>
      obtain ⟨j, v0⟩ := p
      simp only at hv
      split at hv
      case h_2 => cases hv
      rename_i k' hst
      simp only [Option.some.injEq] at hv
      subst hv
      unfold lstays at hst
      split at hst
      case h_2 => cases hst
      rename_i k'' hst'
      split at hst
      case isFalse => cases hst
      rename_i hpk'
      simp only [Option.some.injEq] at hst
      subst hst
      have hk' := plain_ren R k'' hpk'
      obtain ⟨w', hr, hg⟩ := setObj_ok (P := P) r (mapAt_get hm) hheap (fun _ _ _ e => by cases e)
        (o' := .map (es.modify j fun e => { e with key := k'', val := v }) clk) (x' := .map ((es.map (renE R)).toArray.modify j fun e => { e with key := k'', val := ren R v }) clk)
        ⟨by rw [map_modify R es j (fun e => { e with key := k'', val := v })]; intro e _; simp [renE, hk'.1], fun e he => by
          rcases mem_modify he with he | ⟨e', he', rfl⟩
          · exact hwf e he
          · exact ⟨hk'.2, hwv⟩⟩
      refine ⟨w', ?_, hg⟩
      simp only [Instr.mapUpdate, ren, Sem.run_bind, run_underlying hu w, Result.andThen_ok, hget, hk.1, runP_run hck w, hf, renHit, Option.map_some, key_at R hpk, runP_run hst' w, hr]
def lmapEntry (P : Program) (h : LH) (t : TypeId) (m k : Value) : Option (Value × LH) :=
  match P.underlying t, m with
  | some (.map kt elem), .map (some r) =>
    match mapAt h r with
    | some (es, clk) =>
      match lfind P kt k es with
      | some (some (i, v)) =>
        match lstays P es i k with
        | some k' => some (.tuple #[v, goInt (((es[i]?).map (·.born)).getD 0)], h.put r (.map (es.modify i fun e => { e with key := k' }) clk))
        | none => none
      | some none =>
        match P.info? elem with
        | some ie => match ie.zero with
          | some z => if plain z = true then some (.tuple #[z, goInt clk], h.put r (.map (es ++ [{ key := k, val := z, born := clk }]) (clk + 1))) else none
          | none => none
        | none => none
      | none => none
    | none => none
  | _, _ => none
theorem lmapEntry_ok {P : Program} {R : Map} {h h' : LH} {w : World} {t : TypeId} {m k v : Value} (r : HRel R h w.heap) (hv : lmapEntry P h t m k = some (v, h')) :
    OpOk P R h w (Instr.mapEntry t (ren R m) (ren R k)) v h' := by
  unfold lmapEntry at hv
  split at hv
  case h_2 => cases hv
  rename_i kt elem i hu
  split at hv
  case h_2 => cases hv
  rename_i es clk hm
  obtain ⟨hget, hwf⟩ := getMap_ok (P := P) r hm
  have hheap : w.heap[R.b i]? = some (.map (es.map (renE R)).toArray clk) := (r.ok i _ (mapAt_get hm)).2.1
  cases hl : lfind P kt k es with
  | none => rw [hl] at hv; cases hv
  | some x =>
    rw [hl] at hv
    unfold lfind at hl
    split at hl
    case isFalse => cases hl
    rename_i hp
    split at hl
    case h_2 => cases hl
    rename_i u hck
    have hk := (plain_ren R k hp.1)
    have hpk : ∀ e ∈ es, plain e.key = true := List.all_eq_true.1 hp.2
    have hf := findKey_ren R w hpk hl
    cases x with
    | none =>
      simp only at hv
      split at hv
      case h_2 => cases hv
      rename_i ie hie
      split at hv
      case h_2 => cases hv
      rename_i z hz
      split at hv
      case isFalse => cases hv
      rename_i hpz
      have hzr := plain_ren R z hpz
      simp only [Option.some.injEq, Prod.mk.injEq] at hv
      obtain ⟨rfl, rfl⟩ := hv
      obtain ⟨w', hr, hg⟩ := setObj_ok (P := P) r (mapAt_get hm) hheap (fun _ _ _ e => by cases e)
        (o' := .map (es ++ [{ key := k, val := z, born := clk }]) (clk + 1)) (x' := .map ((es.map (renE R)).toArray.push { key := k, val := z, born := clk }) (clk + 1))
        ⟨by simp [renE, hk.1, hzr.1], fun e he => by
          rw [List.mem_append] at he
          rcases he with he | he
          · exact hwf e he
          · simp only [List.mem_singleton] at he; subst he; exact ⟨hk.2, hzr.2⟩⟩
      refine ⟨R, w', ?_, ⟨hzr.2, trivial, trivial⟩, hg⟩
      simp only [Instr.mapEntry, ren, Sem.run_bind, run_underlying hu w, Result.andThen_ok, hget, hk.1, runP_run hck w, hf, renHit, Option.map_none, zeroValue, typeInfo, run_program, hie, Sem.run_pure, hz, hr, renA, renL, hzr.1, goInt]
    | some p =>
      obtain ⟨j, v0⟩ := p
      simp only at hv
      split at hv
      case h_2 => cases hv
      rename_i k' hst
      simp only [Option.some.injEq, Prod.mk.injEq] at hv
      obtain ⟨rfl, rfl⟩ := hv
      unfold lstays at hst
      split at hst
      case h_2 => cases hst
      rename_i k'' hst'
      split at hst
      case isFalse => cases hst
      rename_i hpk'
      simp only [Option.some.injEq] at hst
      subst hst
      have hk' := plain_ren R k'' hpk'
      obtain ⟨e0, he0, hev⟩ := findKey_val hl
      have hborn : ((((es.map (renE R)).toArray)[j]?).map (fun x => (x.born : Int))).getD 0 = ((es[j]?).map (fun x => (x.born : Int))).getD 0 := by
        simp only [List.getElem?_toArray, List.getElem?_map]
        cases es[j]? <;> rfl
      obtain ⟨w', hr, hg⟩ := setObj_ok (P := P) r (mapAt_get hm) hheap (fun _ _ _ e => by cases e)
        (o' := .map (es.modify j fun e => { e with key := k'' }) clk) (x' := .map ((es.map (renE R)).toArray.modify j fun e => { e with key := k'' }) clk)
        ⟨by rw [map_modify R es j (fun e => { e with key := k'' })]; intro e _; simp [renE, hk'.1], fun e he => by
          rcases mem_modify he with he | ⟨e', he', rfl⟩
          · exact hwf e he
          · exact ⟨hk'.2, (hwf e' he').2⟩⟩
      refine ⟨R, w', ?_, ⟨hev ▸ (hwf e0 he0).2, trivial, trivial⟩, hg⟩
      simp only [Instr.mapEntry, ren, Sem.run_bind, run_underlying hu w, Result.andThen_ok, hget, hk.1, runP_run hck w, hf, renHit, Option.map_some, key_at R hpk, runP_run hst' w, hr, hborn, Sem.run_pure, renA, renL, goInt]
def lentryStore (h : LH) (m s v : Value) : Option LH :=
  match m, s with
  | .map (some r), .int _ born =>
    match mapAt h r with
    | some (es, clk) =>
      match es.findIdx? (fun e => (e.born : Int) == born) with
      | some i => some (h.put r (.map (es.modify i fun e => { e with val := v }) clk))
      | none => none
    | none => none
  | _, _ => none
theorem lentryStore_ok {P : Program} {R : Map} {h h' : LH} {w : World} {t : TypeId} {m s v : Value} (r : HRel R h w.heap) (hwv : wfv R v) (hv : lentryStore h m s v = some h') :
    ∃ w', (Instr.entryStore t (ren R m) (ren R s) (ren R v)).run P w = .ok () w' ∧ Goes R h w R h' w' := by
  unfold lentryStore at hv
  split at hv
  case h_2 => cases hv
  rename_i i k born
  split at hv
  case h_2 => cases hv
  rename_i es clk hm
  split at hv
  case h_2 => cases hv
  rename_i j hj
  simp only [Option.some.injEq] at hv
  subst hv
  obtain ⟨hget, hwf⟩ := getMap_ok (P := P) r hm
  have hheap : w.heap[R.b i]? = some (.map (es.map (renE R)).toArray clk) := (r.ok i _ (mapAt_get hm)).2.1
  obtain ⟨w', hr, hg⟩ := setObj_ok (P := P) r (mapAt_get hm) hheap (fun _ _ _ e => by cases e)
    (o' := .map (es.modify j fun e => { e with val := v }) clk) (x' := .map ((es.map (renE R)).toArray.modify j fun e => { e with val := ren R v }) clk)
    ⟨by rw [map_modify R es j (fun e => { e with val := v })]; intro e _; rfl, fun e he => by
      rcases mem_modify he with he | ⟨e', he', rfl⟩
      · exact hwf e he
      · exact ⟨(hwf e' he').1, hwv⟩⟩
  refine ⟨w', ?_, hg⟩
  have hidx : (es.map (renE R)).toArray.findIdx? (fun e => (e.born : Int) == born) = some j := by
    rw [List.findIdx?_toArray, List.findIdx?_map]
    exact hj
  simp only [Instr.entryStore, ren, Sem.run_bind, hget, Result.andThen_ok, asInt, asIntOf, Sem.run_pure, hidx, hr]

/-! ### Lengths, nil -/
def llen (P : Program) (h : LH) (t : TypeId) (x : Value) : Option Value :=
  match P.underlying t, x with
  | some (.slice _), .slice _ n _ => some (goInt n)
  | some .string, .string s => some (goInt s.size)
  | some (.map _ _), .map (some r) => (mapAt h r).map fun p => goInt p.1.length
  | _, _ => none
theorem llen_ok {P : Program} {R : Map} {h : LH} {w : World} {ts : Array TypeId} {t type : TypeId} {x v : Value} {args : Array Value} (r : HRel R h w.heap) (ht : ts[0]? = some t) (ha : args[0]? = some x) (hv : llen P h t x = some v) :
    (Builtin.len_ ts type (renA R args)).run P w = .ok (ren R v) w ∧ wfv R v := by
  have h0 : (renA R args)[0]? = some (ren R x) := by rw [renA_eq]; simp [ha]
  unfold llen at hv
  split at hv
  · rename_i e a n c hu
    simp only [Option.some.injEq] at hv
    subst hv
    refine ⟨?_, trivial⟩
    cases a <;> simp only [ren] at h0 <;> simp only [Builtin.len_, ht, h0, Sem.run_bind, run_underlying hu w, Result.andThen_ok, Sem.run_pure, goInt, ren]
  · rename_i s hu
    simp only [Option.some.injEq] at hv
    subst hv
    refine ⟨?_, trivial⟩
    simp only [ren] at h0
    simp only [Builtin.len_, ht, h0, Sem.run_bind, run_underlying hu w, Result.andThen_ok, Sem.run_pure, goInt, ren]
  · rename_i k e i hu
    simp only [Option.map_eq_some_iff] at hv
    obtain ⟨⟨es, c⟩, hm, rfl⟩ := hv
    refine ⟨?_, trivial⟩
    simp only [ren] at h0
    simp only [Builtin.len_, ht, h0, Sem.run_bind, run_underlying hu w, Result.andThen_ok, (getMap_ok (P := P) r hm).1, Sem.run_pure, goInt, ren, List.size_toArray, List.length_map]
  · cases hv

def lnilEq : TypeDesc → Value → Value → Option Bool
  | .pointer _, .pointer none, .pointer b => some b.isNone
  | .pointer _, .pointer (some _), .pointer none => some false
  | .slice _, .slice none _ _, .slice b _ _ => some b.isNone
  | .slice _, .slice (some _) _ _, .slice none _ _ => some false
  | .map _ _, .map none, .map b => some b.isNone
  | .map _ _, .map (some _), .map none => some false
  | .func _ _ _, .nilFunc, .nilFunc => some true
  | .func _ _ _, .func _ _ _, .nilFunc => some false
  | .func _ _ _, .nilFunc, .func _ _ _ => some false
  | _, _, _ => none
theorem lnilEq_at {P : Program} {R : Map} {w : World} {t : TypeId} {dd : TypeDesc} {x y : Value} {b : Bool} (d : Nat) (hu : P.underlying t = some dd) (hv : lnilEq dd x y = some b) :
    (Op.equalIn (d + 1) t (ren R x) (ren R y)).run P w = .ok b w := by
  unfold lnilEq at hv
  split at hv
  all_goals (first | (simp only [Option.some.injEq] at hv; subst hv) | cases hv)
  all_goals
    simp only [Op.equalIn, Sem.run_bind, run_underlying hu w, Result.andThen_ok]
  · rename_i e b
    cases b <;> rfl
  · rfl
  · rename_i e l c b l' c'
    cases b <;> rfl
  · rfl
  · rename_i e e' b
    cases b <;> rfl
  · rfl
  · rfl
  · rfl
  · rfl
theorem lnilEq_ok {P : Program} {R : Map} {w : World} {t : TypeId} {d : TypeDesc} {x y : Value} {b : Bool} (hu : P.underlying t = some d) (hv : lnilEq d x y = some b) :
    (Op.equal t (ren R x) (ren R y)).run P w = .ok b w := lnilEq_at 9999 hu hv
end
end Go.Proofs.YtedfhallhpkkhaaGreatDoor.X
