/- A local form of the model's values: block numbers are renamed by a partial map, and the spare capacity behind a local block is left open. Plain lemmas on the renaming; no program. -/
import Derived.CallsIn
import Derived.OrdersIn
import Derived.RangeFuncIn
set_option linter.unusedVariables false
set_option linter.unusedSimpArgs false
namespace Go.Proofs.YtedfhallhpkkhaaGreatDoor.X
open Go

/-- Where a local block lies: the real block's number, and by how many elements its capacity is greater than the local one. -/
abbrev Map := Nat → Option (Nat × Nat)
def Map.b (R : Map) (i : Nat) : Nat := ((R i).map (·.1)).getD 0
def Map.d (R : Map) (i : Nat) : Nat := ((R i).map (·.2)).getD 0
def Map.ext (R R' : Map) : Prop := ∀ i x, R i = some x → R' i = some x

theorem Map.ext_refl (R : Map) : R.ext R := fun _ _ h => h
theorem Map.ext_trans {R R' R'' : Map} (h : R.ext R') (h' : R'.ext R'') : R.ext R'' := fun i x hx => h' i x (h i x hx)
theorem Map.ext_some {R R' : Map} (h : R.ext R') {i : Nat} (hi : (R i).isSome = true) : R' i = R i := by
  obtain ⟨x, hx⟩ := Option.isSome_iff_exists.1 hi
  rw [hx, h i x hx]
theorem Map.ext_b {R R' : Map} (h : R.ext R') {i : Nat} (hi : (R i).isSome = true) : R'.b i = R.b i := by
  unfold Map.b; rw [Map.ext_some h hi]
theorem Map.ext_d {R R' : Map} (h : R.ext R') {i : Nat} (hi : (R i).isSome = true) : R'.d i = R.d i := by
  unfold Map.d; rw [Map.ext_some h hi]
theorem Map.ext_isSome {R R' : Map} (h : R.ext R') {i : Nat} (hi : (R i).isSome = true) : (R' i).isSome = true := by
  rw [Map.ext_some h hi]; exact hi

def renFn (R : Map) : Fn → Fn
  | .yield l => .yield (R.b l)
  | f => f
def wfFn (R : Map) : Fn → Prop
  | .yield l => (R l).isSome = true
  | _ => True

mutual
def ren (R : Map) : Value → Value
  | .pointer (some a) => .pointer (some ⟨R.b a.block, a.off, a.spot⟩)
  | .slice (some a) len cap => .slice (some ⟨R.b a.block, a.off, a.spot⟩) len (cap + R.d a.block)
  | .map (some r) => .map (some (R.b r))
  | .func fn fs cs => .func (renFn R fn) (renA R fs) (renA R cs)
  | .iface t v => .iface t (ren R v)
  | .agg cs => .agg (renA R cs)
  | .tuple vs => .tuple (renA R vs)
  | v => v
def renA (R : Map) : Array Value → Array Value
  | ⟨l⟩ => ⟨renL R l⟩
def renL (R : Map) : List Value → List Value
  | [] => []
  | v :: l => ren R v :: renL R l
end

mutual
def wfv (R : Map) : Value → Prop
  | .pointer (some a) => (R a.block).isSome = true ∧ a.spot = none
  | .slice (some a) _ _ => (R a.block).isSome = true ∧ a.spot = none
  | .map (some r) => (R r).isSome = true
  | .chan (some _) => False
  | .func fn fs cs => wfFn R fn ∧ wfA R fs ∧ wfA R cs
  | .iface _ v => wfv R v
  | .agg cs => wfA R cs
  | .tuple vs => wfA R vs
  | _ => True
def wfA (R : Map) : Array Value → Prop
  | ⟨l⟩ => wfL R l
def wfL (R : Map) : List Value → Prop
  | [] => True
  | v :: l => wfv R v ∧ wfL R l
end

theorem renL_eq (R : Map) (l : List Value) : renL R l = l.map (ren R) := by
  induction l with
  | nil => rfl
  | cons v l ih => simp [renL, ih]
theorem renA_eq (R : Map) (a : Array Value) : renA R a = a.map (ren R) := by
  cases a with | mk l => simp [renA, renL_eq]
theorem wfL_iff (R : Map) (l : List Value) : wfL R l ↔ ∀ v ∈ l, wfv R v := by
  induction l with
  | nil => simp [wfL]
  | cons v l ih => simp [wfL, ih]
theorem wfA_iff (R : Map) (a : Array Value) : wfA R a ↔ ∀ v ∈ a, wfv R v := by
  cases a with | mk l => simp [wfA, wfL_iff]

theorem renFn_ext {R R' : Map} (h : R.ext R') {f : Fn} (hf : wfFn R f) : renFn R' f = renFn R f ∧ wfFn R' f := by
  cases f <;> simp_all [renFn, wfFn]
  exact ⟨Map.ext_b h hf, Map.ext_isSome h hf⟩

mutual
theorem ren_ext {R R' : Map} (h : R.ext R') : ∀ v : Value, wfv R v → ren R' v = ren R v ∧ wfv R' v
  | .pointer (some a), hw => by simp only [wfv] at hw; simp [ren, wfv, Map.ext_b h hw.1, Map.ext_isSome h hw.1, hw.2]
  | .slice (some a) _ _, hw => by simp only [wfv] at hw; simp [ren, wfv, Map.ext_b h hw.1, Map.ext_d h hw.1, Map.ext_isSome h hw.1, hw.2]
  | .map (some r), hw => by simp only [wfv] at hw; simp [ren, wfv, Map.ext_b h hw, Map.ext_isSome h hw]
  | .func fn fs cs, hw => by
    simp only [wfv] at hw
    have h1 := renFn_ext h hw.1
    have h2 := renA_ext h fs hw.2.1
    have h3 := renA_ext h cs hw.2.2
    simp [ren, wfv, h1, h2, h3]
  | .iface t v, hw => by simp only [wfv] at hw; have h1 := ren_ext h v hw; simp [ren, wfv, h1]
  | .agg cs, hw => by simp only [wfv] at hw; have h1 := renA_ext h cs hw; simp [ren, wfv, h1]
  | .tuple cs, hw => by simp only [wfv] at hw; have h1 := renA_ext h cs hw; simp [ren, wfv, h1]
  | .pointer none, _ => by simp [ren, wfv]
  | .slice none _ _, _ => by simp [ren, wfv]
  | .map none, _ => by simp [ren, wfv]
  | .chan none, _ => by simp [ren, wfv]
  | .chan (some _), hw => by simp [wfv] at hw
  | .bool _, _ => by simp [ren, wfv]
  | .int _ _, _ => by simp [ren, wfv]
  | .float _ _, _ => by simp [ren, wfv]
  | .complex _ _ _, _ => by simp [ren, wfv]
  | .string _, _ => by simp [ren, wfv]
  | .nilFunc, _ => by simp [ren, wfv]
  | .nilIface, _ => by simp [ren, wfv]
theorem renA_ext {R R' : Map} (h : R.ext R') : ∀ a : Array Value, wfA R a → renA R' a = renA R a ∧ wfA R' a
  | ⟨l⟩, hw => by simp only [wfA] at hw; have h1 := renL_ext h l hw; simp [renA, wfA, h1]
theorem renL_ext {R R' : Map} (h : R.ext R') : ∀ l : List Value, wfL R l → renL R' l = renL R l ∧ wfL R' l
  | [], _ => by simp [renL, wfL]
  | v :: l, hw => by
    simp only [wfL] at hw
    have h1 := ren_ext h v hw.1
    have h2 := renL_ext h l hw.2
    simp [renL, wfL, h1, h2]
end

/-- A value without an address: the renaming leaves it as it is. -/
def plainFn : Fn → Bool
  | .yield _ => false
  | _ => true
mutual
def plain : Value → Bool
  | .pointer (some _) => false
  | .slice (some _) _ _ => false
  | .map (some _) => false
  | .chan (some _) => false
  | .func fn fs cs => plainFn fn && (plainA fs && plainA cs)
  | .iface _ v => plain v
  | .agg cs => plainA cs
  | .tuple vs => plainA vs
  | _ => true
def plainA : Array Value → Bool
  | ⟨l⟩ => plainL l
def plainL : List Value → Bool
  | [] => true
  | v :: l => plain v && plainL l
end
theorem plainFn_ren {R : Map} {f : Fn} (h : plainFn f = true) : renFn R f = f ∧ wfFn R f := by
  cases f <;> simp_all [renFn, wfFn, plainFn]
mutual
theorem plain_ren (R : Map) : ∀ v : Value, plain v = true → ren R v = v ∧ wfv R v
  | .pointer (some a), hw => by simp [plain] at hw
  | .slice (some a) _ _, hw => by simp [plain] at hw
  | .map (some r), hw => by simp [plain] at hw
  | .func fn fs cs, hw => by
    simp only [plain, Bool.and_eq_true] at hw
    have h1 := plainFn_ren (R := R) hw.1
    have h2 := plainA_ren R fs hw.2.1
    have h3 := plainA_ren R cs hw.2.2
    simp [ren, wfv, h1, h2, h3]
  | .iface t v, hw => by simp only [plain] at hw; have h1 := plain_ren R v hw; simp [ren, wfv, h1]
  | .agg cs, hw => by simp only [plain] at hw; have h1 := plainA_ren R cs hw; simp [ren, wfv, h1]
  | .tuple cs, hw => by simp only [plain] at hw; have h1 := plainA_ren R cs hw; simp [ren, wfv, h1]
  | .pointer none, _ => by simp [ren, wfv]
  | .slice none _ _, _ => by simp [ren, wfv]
  | .map none, _ => by simp [ren, wfv]
  | .chan none, _ => by simp [ren, wfv]
  | .chan (some _), hw => by simp [plain] at hw
  | .bool _, _ => by simp [ren, wfv]
  | .int _ _, _ => by simp [ren, wfv]
  | .float _ _, _ => by simp [ren, wfv]
  | .complex _ _ _, _ => by simp [ren, wfv]
  | .string _, _ => by simp [ren, wfv]
  | .nilFunc, _ => by simp [ren, wfv]
  | .nilIface, _ => by simp [ren, wfv]
theorem plainA_ren (R : Map) : ∀ a : Array Value, plainA a = true → renA R a = a ∧ wfA R a
  | ⟨l⟩, hw => by simp only [plainA] at hw; have h1 := plainL_ren R l hw; simp [renA, wfA, h1]
theorem plainL_ren (R : Map) : ∀ l : List Value, plainL l = true → renL R l = l ∧ wfL R l
  | [], _ => by simp [renL, wfL]
  | v :: l, hw => by
    simp only [plainL, Bool.and_eq_true] at hw
    have h1 := plain_ren R v hw.1
    have h2 := plainL_ren R l hw.2
    simp [renL, wfL, h1, h2]
end
end Go.Proofs.YtedfhallhpkkhaaGreatDoor.X
