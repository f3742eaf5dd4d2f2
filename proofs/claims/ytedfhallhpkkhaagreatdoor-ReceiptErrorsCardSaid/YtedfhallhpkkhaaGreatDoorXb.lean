/- A local heap (a tree of blocks), its relation to the model's heap under a renaming, and what a step may do to both. Plain lemmas; no program. -/
import Derived.Test.YtedfhallhpkkhaaGreatDoorXa
set_option linter.unusedVariables false
set_option linter.unusedSimpArgs false
namespace Go.Proofs.YtedfhallhpkkhaaGreatDoor.X
open Go
noncomputable section

inductive T (α : Type) where
  | nil
  | node (l : T α) (v : Option α) (r : T α)

variable {α : Type}
/- (By the recursors themselves: the kernel runs these.) -/
noncomputable def T.get (t : T α) : Nat → Option α :=
  T.rec (motive := fun _ => Nat → Option α) (fun _ => none)
    (fun _ v _ gl gr k => Nat.rec (motive := fun _ => Option α) v (fun j _ => Nat.rec (motive := fun _ => Option α) (gl (Nat.div j 2)) (fun _ _ => gr (Nat.div j 2)) (Nat.mod j 2)) k) t
noncomputable def T.setIn (n : Nat) (x : Option α) : T α → Nat → T α :=
  Nat.rec (motive := fun _ => T α → Nat → T α) (fun t _ => t)
    (fun _ ih t k => T.rec (motive := fun _ => T α)
      (Nat.rec (motive := fun _ => T α) (T.node T.nil x T.nil) (fun j _ => Nat.rec (motive := fun _ => T α) (T.node (ih T.nil (Nat.div j 2)) none T.nil) (fun _ _ => T.node T.nil none (ih T.nil (Nat.div j 2))) (Nat.mod j 2)) k)
      (fun l v r _ _ => Nat.rec (motive := fun _ => T α) (T.node l x r) (fun j _ => Nat.rec (motive := fun _ => T α) (T.node (ih l (Nat.div j 2)) v r) (fun _ _ => T.node l v (ih r (Nat.div j 2))) (Nat.mod j 2)) k) t) n
noncomputable def T.set (t : T α) (k : Nat) (x : Option α) : T α := T.setIn (Nat.succ k) x t k

theorem T.get_nil (k : Nat) : (T.nil : T α).get k = none := rfl
theorem T.get_zero (l : T α) (v : Option α) (r : T α) : (T.node l v r).get 0 = v := rfl
theorem T.get_odd (l : T α) (v : Option α) (r : T α) (j : Nat) : (T.node l v r).get (2 * j + 1) = l.get j := by
  show Nat.rec (motive := fun _ => Option α) (l.get (Nat.div (2 * j) 2)) (fun _ _ => r.get (Nat.div (2 * j) 2)) (Nat.mod (2 * j) 2) = _
  have h1 : Nat.mod (2 * j) 2 = 0 := by show (2 * j) % 2 = 0; omega
  have h2 : Nat.div (2 * j) 2 = j := by show (2 * j) / 2 = j; omega
  rw [h1, h2]
  rfl
theorem T.get_even (l : T α) (v : Option α) (r : T α) (j : Nat) : (T.node l v r).get (2 * j + 2) = r.get j := by
  show Nat.rec (motive := fun _ => Option α) (l.get (Nat.div (2 * j + 1) 2)) (fun _ _ => r.get (Nat.div (2 * j + 1) 2)) (Nat.mod (2 * j + 1) 2) = _
  have h1 : Nat.mod (2 * j + 1) 2 = 0 + 1 := by show (2 * j + 1) % 2 = 0 + 1; omega
  have h2 : Nat.div (2 * j + 1) 2 = j := by show (2 * j + 1) / 2 = j; omega
  rw [h1, h2]
theorem split3 (k : Nat) : k = 0 ∨ (∃ j, k = 2 * j + 1) ∨ ∃ j, k = 2 * j + 2 := by
  rcases Nat.eq_zero_or_pos k with h | h
  · exact .inl h
  · by_cases h2 : k % 2 = 1
    · exact .inr (.inl ⟨k / 2, by omega⟩)
    · exact .inr (.inr ⟨k / 2 - 1, by omega⟩)
theorem T.setIn_zero (n : Nat) (x : Option α) (t : T α) : ∃ l v r, T.setIn (n + 1) x t 0 = T.node l x r ∧ (∀ j, t.get (2 * j + 1) = l.get j) ∧ (∀ j, t.get (2 * j + 2) = r.get j) ∧ t.get 0 = v := by
  cases t with
  | nil => exact ⟨.nil, none, .nil, rfl, fun _ => rfl, fun _ => rfl, rfl⟩
  | node l v r => exact ⟨l, v, r, rfl, fun j => T.get_odd l v r j, fun j => T.get_even l v r j, rfl⟩
theorem T.setIn_odd (n : Nat) (x : Option α) (t : T α) (j : Nat) : ∃ l v r, T.setIn (n + 1) x t (2 * j + 1) = T.node (T.setIn n x l j) v r ∧ (∀ j, t.get (2 * j + 1) = l.get j) ∧ (∀ j, t.get (2 * j + 2) = r.get j) ∧ t.get 0 = v := by
  have h1 : Nat.mod (2 * j) 2 = 0 := by show (2 * j) % 2 = 0; omega
  have h2 : Nat.div (2 * j) 2 = j := by show (2 * j) / 2 = j; omega
  cases t with
  | nil =>
    refine ⟨.nil, none, .nil, ?_, fun _ => rfl, fun _ => rfl, rfl⟩
    show Nat.rec (motive := fun _ => T α) (T.node (T.setIn n x .nil (Nat.div (2 * j) 2)) none T.nil) (fun _ _ => T.node T.nil none (T.setIn n x .nil (Nat.div (2 * j) 2))) (Nat.mod (2 * j) 2) = _
    rw [h1, h2]
    rfl
  | node l v r =>
    refine ⟨l, v, r, ?_, fun j => T.get_odd l v r j, fun j => T.get_even l v r j, rfl⟩
    show Nat.rec (motive := fun _ => T α) (T.node (T.setIn n x l (Nat.div (2 * j) 2)) v r) (fun _ _ => T.node l v (T.setIn n x r (Nat.div (2 * j) 2))) (Nat.mod (2 * j) 2) = _
    rw [h1, h2]
    rfl
theorem T.setIn_even (n : Nat) (x : Option α) (t : T α) (j : Nat) : ∃ l v r, T.setIn (n + 1) x t (2 * j + 2) = T.node l v (T.setIn n x r j) ∧ (∀ j, t.get (2 * j + 1) = l.get j) ∧ (∀ j, t.get (2 * j + 2) = r.get j) ∧ t.get 0 = v := by
  have h1 : Nat.mod (2 * j + 1) 2 = 0 + 1 := by show (2 * j + 1) % 2 = 0 + 1; omega
  have h2 : Nat.div (2 * j + 1) 2 = j := by show (2 * j + 1) / 2 = j; omega
  cases t with
  | nil =>
    refine ⟨.nil, none, .nil, ?_, fun _ => rfl, fun _ => rfl, rfl⟩
    show Nat.rec (motive := fun _ => T α) (T.node (T.setIn n x .nil (Nat.div (2 * j + 1) 2)) none T.nil) (fun _ _ => T.node T.nil none (T.setIn n x .nil (Nat.div (2 * j + 1) 2))) (Nat.mod (2 * j + 1) 2) = _
    rw [h1, h2]
  | node l v r =>
    refine ⟨l, v, r, ?_, fun j => T.get_odd l v r j, fun j => T.get_even l v r j, rfl⟩
    show Nat.rec (motive := fun _ => T α) (T.node (T.setIn n x l (Nat.div (2 * j + 1) 2)) v r) (fun _ _ => T.node l v (T.setIn n x r (Nat.div (2 * j + 1) 2))) (Nat.mod (2 * j + 1) 2) = _
    rw [h1, h2]
theorem T.get_setIn (x : Option α) : ∀ (n : Nat) (t : T α) (k j : Nat), k < n → (T.setIn n x t k).get j = if j = k then x else t.get j := by
  intro n
  induction n with
  | zero => intro t k j h; omega
  | succ n ih =>
    intro t k j h
    rcases split3 k with rfl | ⟨k', rfl⟩ | ⟨k', rfl⟩
    · obtain ⟨l, v, r, h1, h2, h3, h4⟩ := T.setIn_zero n x t
      rw [h1]
      rcases split3 j with rfl | ⟨j', rfl⟩ | ⟨j', rfl⟩
      · rfl
      · rw [T.get_odd, if_neg (by omega), h2]
      · rw [T.get_even, if_neg (by omega), h3]
    · obtain ⟨l, v, r, h1, h2, h3, h4⟩ := T.setIn_odd n x t k'
      rw [h1]
      rcases split3 j with rfl | ⟨j', rfl⟩ | ⟨j', rfl⟩
      · rw [T.get_zero, if_neg (by omega), h4]
      · rw [T.get_odd, ih _ _ _ (by omega), h2]
        by_cases he : j' = k'
        · rw [if_pos he, if_pos (by omega)]
        · rw [if_neg he, if_neg (by omega)]
      · rw [T.get_even, if_neg (by omega), h3]
    · obtain ⟨l, v, r, h1, h2, h3, h4⟩ := T.setIn_even n x t k'
      rw [h1]
      rcases split3 j with rfl | ⟨j', rfl⟩ | ⟨j', rfl⟩
      · rw [T.get_zero, if_neg (by omega), h4]
      · rw [T.get_odd, if_neg (by omega), h2]
      · rw [T.get_even, ih _ _ _ (by omega), h3]
        by_cases he : j' = k'
        · rw [if_pos he, if_pos (by omega)]
        · rw [if_neg he, if_neg (by omega)]
theorem T.get_set (t : T α) (k j : Nat) (x : Option α) : (t.set k x).get j = if j = k then x else t.get j :=
  T.get_setIn x (k + 1) t k j (by omega)

/-- The record of a range over a function, its temporaries in a tree. -/
structure LLoop where
  state : LoopState
  pending : Option Code
  tmps : T Value
  n : Nat
  params : Array Tmp
  assign : Code
  body : Code
  defers : Nat

/-- What a local block holds: cells (e > 0: behind them there may be room for more elements of e cells each), a map, or the record of a range over a function. -/
inductive LO where
  | cells (c : List Value) (e : Nat)
  | map (es : List MapEntry) (clock : Nat)
  | loop (l : LLoop)
  | obj (o : Obj)

structure LH where
  t : T LO
  next : Nat

def LH.get (h : LH) (i : Nat) : Option LO := h.t.get i
def LH.put (h : LH) (i : Nat) (o : LO) : LH := match h with | ⟨t, n⟩ => ⟨t.set i (some o), n⟩
def LH.kill (h : LH) (i : Nat) : LH := match h with | ⟨t, n⟩ => ⟨t.set i none, n⟩
def LH.add (h : LH) (o : LO) : LH := match h with | ⟨t, n⟩ => ⟨t.set n (some o), n + 1⟩

theorem LH.get_put (h : LH) (i j : Nat) (o : LO) : (h.put i o).get j = if j = i then some o else h.get j := T.get_set _ _ _ _
theorem LH.get_kill (h : LH) (i j : Nat) : (h.kill i).get j = if j = i then none else h.get j := T.get_set _ _ _ _
theorem LH.get_add (h : LH) (j : Nat) (o : LO) : (h.add o).get j = if j = h.next then some o else h.get j := T.get_set _ _ _ _

def renE (R : Map) (e : MapEntry) : MapEntry := { e with key := ren R e.key, val := ren R e.val }
def renObj (R : Map) : Obj → Obj
  | .mapIter (some m) a b c => .mapIter (some (R.b m)) a b c
  | o => o
def wfObj (R : Map) : Obj → Prop
  | .mapIter (some m) _ _ _ => (R m).isSome = true
  | .mapIter none _ _ _ => True
  | .deferred (some []) => True
  | .deferred none => True
  | _ => False

/-- Temporaries, locally in a tree. -/
def TRel (R : Map) (t : T Value) (n : Nat) (ta : Array Value) : Prop :=
  ta.size = n ∧ (∀ k : Nat, k < n → ta[k]? = some (ren R ((t.get k).getD undef))) ∧ (∀ (k : Nat) (v : Value), t.get k = some v → k < n ∧ wfv R v)

/-- The real block x is what the local block i holds. -/
def ORel (R : Map) (i : Nat) : LO → Option Obj → Prop
  | .cells c e, x => ∃ cs t f, x = some (.cells cs t f) ∧ c.length + R.d i * e ≤ cs.size ∧ (∀ (k : Nat) (v : Value), c[k]? = some v → cs[k]? = some (ren R v)) ∧
      (∀ k : Nat, k < c.length + R.d i * e → ¬ (f.1 ≤ k ∧ k < f.2)) ∧ (e = 0 → R.d i = 0) ∧ wfL R c
  | .map es clock, x => x = some (.map (es.map (renE R)).toArray clock) ∧ ∀ e ∈ es, wfv R e.key ∧ wfv R e.val
  | .loop l, x => ∃ f ta, x = some (.loop { state := l.state, pending := l.pending, fn := f, tmps := ta, params := l.params, assign := l.assign, body := l.body, defers := R.b l.defers }) ∧
      TRel R l.tmps l.n ta ∧ (R l.defers).isSome = true
  | .obj o, x => x = some (renObj R o) ∧ wfObj R o

/-- What block 0 holds: the constants of SHA-256. -/
def gconst : List Value := [.int .u32 1116352408, .int .u32 1899447441, .int .u32 3049323471, .int .u32 3921009573, .int .u32 961987163, .int .u32 1508970993, .int .u32 2453635748, .int .u32 2870763221, .int .u32 3624381080, .int .u32 310598401, .int .u32 607225278, .int .u32 1426881987, .int .u32 1925078388, .int .u32 2162078206, .int .u32 2614888103, .int .u32 3248222580, .int .u32 3835390401, .int .u32 4022224774, .int .u32 264347078, .int .u32 604807628, .int .u32 770255983, .int .u32 1249150122, .int .u32 1555081692, .int .u32 1996064986, .int .u32 2554220882, .int .u32 2821834349, .int .u32 2952996808, .int .u32 3210313671, .int .u32 3336571891, .int .u32 3584528711, .int .u32 113926993, .int .u32 338241895, .int .u32 666307205, .int .u32 773529912, .int .u32 1294757372, .int .u32 1396182291, .int .u32 1695183700, .int .u32 1986661051, .int .u32 2177026350, .int .u32 2456956037, .int .u32 2730485921, .int .u32 2820302411, .int .u32 3259730800, .int .u32 3345764771, .int .u32 3516065817, .int .u32 3600352804, .int .u32 4094571909, .int .u32 275423344, .int .u32 430227734, .int .u32 506948616, .int .u32 659060556, .int .u32 883997877, .int .u32 958139571, .int .u32 1322822218, .int .u32 1537002063, .int .u32 1747873779, .int .u32 1955562222, .int .u32 2024104815, .int .u32 2227730452, .int .u32 2361852424, .int .u32 2428436474, .int .u32 2756734187, .int .u32 3204031479, .int .u32 3329325298]
theorem gconst_plain : ∀ v ∈ gconst, plain v = true := by
  unfold gconst
  intro v hv
  simp only [List.mem_cons, List.not_mem_nil, or_false] at hv
  rcases hv with rfl | rfl | rfl | rfl | rfl | rfl | rfl | rfl | rfl | rfl | rfl | rfl | rfl | rfl | rfl | rfl | rfl | rfl | rfl | rfl | rfl | rfl | rfl | rfl | rfl | rfl | rfl | rfl | rfl | rfl | rfl | rfl | rfl | rfl | rfl | rfl | rfl | rfl | rfl | rfl | rfl | rfl | rfl | rfl | rfl | rfl | rfl | rfl | rfl | rfl | rfl | rfl | rfl | rfl | rfl | rfl | rfl | rfl | rfl | rfl | rfl | rfl | rfl | rfl <;> rfl
def GOk (H : Array Obj) : Prop := ∃ cs t f, H[0]? = some (.cells cs t f) ∧ ∀ (k : Nat) (v : Value), gconst[k]? = some v → cs[k]? = some v
theorem GOk.pos {H : Array Obj} (g : GOk H) : 0 < H.size := by
  obtain ⟨cs, t, f, h, _⟩ := g
  rcases Nat.eq_zero_or_pos H.size with h0 | h0
  · rw [Array.getElem?_eq_none (by omega)] at h; cases h
  · exact h0
theorem GOk.of {H H' : Array Obj} (g : GOk H) (h : H'[0]? = H[0]?) : GOk H' := by unfold GOk; rw [h]; exact g
structure HRel (R : Map) (h : LH) (H : Array Obj) : Prop where
  ok : ∀ i o, h.get i = some o → (R i).isSome = true ∧ ORel R i o H[R.b i]?
  inj : ∀ i j oi oj, h.get i = some oi → h.get j = some oj → R.b i = R.b j → i = j
  fresh : ∀ i, h.next ≤ i → R i = none
  glob : R 0 = some (0, 0) ∧ GOk H ∧ ∀ i o, h.get i = some o → R.b i ≠ 0

theorem HRel.get_fresh {R : Map} {h : LH} {H : Array Obj} (r : HRel R h H) {i : Nat} (hi : h.next ≤ i) : h.get i = none := by
  cases hg : h.get i with
  | none => rfl
  | some o => have := (r.ok i o hg).1; rw [r.fresh i hi] at this; simp at this
theorem HRel.lt {R : Map} {h : LH} {H : Array Obj} (r : HRel R h H) {i : Nat} (hi : (R i).isSome = true) : i < h.next := by
  rcases Nat.lt_or_ge i h.next with h1 | h1
  · exact h1
  · rw [r.fresh i h1] at hi; simp at hi

theorem renE_ext {R R' : Map} (h : R.ext R') {e : MapEntry} (hw : wfv R e.key ∧ wfv R e.val) : renE R' e = renE R e := by
  unfold renE; rw [(ren_ext h _ hw.1).1, (ren_ext h _ hw.2).1]
theorem renObj_ext {R R' : Map} (h : R.ext R') {o : Obj} (hw : wfObj R o) : renObj R' o = renObj R o ∧ wfObj R' o := by
  cases o with
  | mapIter m a b c => cases m with
    | none => simp [renObj, wfObj]
    | some m => simp only [wfObj] at hw; simp [renObj, wfObj, Map.ext_b h hw, Map.ext_isSome h hw]
  | deferred d => cases d with
    | none => simp [renObj, wfObj]
    | some l => cases l with
      | nil => simp [renObj, wfObj]
      | cons => simp [wfObj] at hw
  | _ => simp [wfObj] at hw
theorem wf_undef (R : Map) : wfv R undef := trivial
theorem TRel.ext {R R' : Map} (h : R.ext R') {t : T Value} {n : Nat} {ta : Array Value} (r : TRel R t n ta) : TRel R' t n ta := by
  obtain ⟨h1, h2, h3⟩ := r
  refine ⟨h1, fun k hk => ?_, fun k v hv => ⟨(h3 k v hv).1, (ren_ext h v (h3 k v hv).2).2⟩⟩
  rw [h2 k hk]
  cases hg : t.get k with
  | none => rw [Option.getD_none, (ren_ext h undef (wf_undef R)).1]
  | some v => rw [Option.getD_some, (ren_ext h v (h3 k v hg).2).1]
theorem ORel.ext {R R' : Map} (h : R.ext R') {i : Nat} {o : LO} {x : Option Obj} (hi : (R i).isSome = true) (r : ORel R i o x) : ORel R' i o x := by
  cases o with
  | cells c e =>
    obtain ⟨cs, t, f, h1, h2, h3, h4, h5, h6⟩ := r
    refine ⟨cs, t, f, h1, by rw [Map.ext_d h hi]; exact h2, fun k v hk => ?_, by rw [Map.ext_d h hi]; exact h4, by rw [Map.ext_d h hi]; exact h5, (renL_ext h c h6).2⟩
    rw [(ren_ext h v ((wfL_iff _ _).1 h6 v (List.mem_of_getElem? hk))).1]
    exact h3 k v hk
  | map es clock =>
    obtain ⟨h1, h2⟩ := r
    refine ⟨?_, fun e he => ⟨(ren_ext h _ (h2 e he).1).2, (ren_ext h _ (h2 e he).2).2⟩⟩
    rw [h1, List.map_congr_left fun e he => renE_ext h (h2 e he)]
  | loop l =>
    obtain ⟨f, ta, h1, h2, h3⟩ := r
    exact ⟨f, ta, by rw [h1, Map.ext_b h h3], h2.ext h, Map.ext_isSome h h3⟩
  | obj o =>
    obtain ⟨h1, h2⟩ := r
    exact ⟨by rw [h1, (renObj_ext h h2).1], (renObj_ext h h2).2⟩

/-- What a step of the local heap and of the world keeps. -/
structure Goes (R : Map) (h : LH) (w : World) (R' : Map) (h' : LH) (w' : World) : Prop where
  ext : R.ext R'
  old : ∀ i, i < h.next → R' i = R i
  rel : HRel R' h' w'.heap
  next : h.next ≤ h'.next
  size : w.heap.size ≤ w'.heap.size
  os : w'.os = w.os
  tape : w'.tape = w.tape
  output : w'.output = w.output
  frame : ∀ b, b < w.heap.size → (∀ i o, h.get i = some o → R.b i ≠ b) → w'.heap[b]? = w.heap[b]?
  img : ∀ i o, h'.get i = some o → (∃ j o', h.get j = some o' ∧ R.b j = R'.b i) ∨ w.heap.size ≤ R'.b i

theorem Goes.refl {R : Map} {h : LH} {w : World} (r : HRel R h w.heap) : Goes R h w R h w :=
  ⟨Map.ext_refl R, fun _ _ => rfl, r, Nat.le_refl _, Nat.le_refl _, rfl, rfl, rfl, fun _ _ _ => rfl, fun i o hi => .inl ⟨i, o, hi, rfl⟩⟩
theorem Goes.trans {R R' R'' : Map} {h h' h'' : LH} {w w' w'' : World} (a : Goes R h w R' h' w') (b : Goes R' h' w' R'' h'' w'') : Goes R h w R'' h'' w'' := by
  refine ⟨Map.ext_trans a.ext b.ext, fun i hi => (b.old i (Nat.lt_of_lt_of_le hi a.next)).trans (a.old i hi), b.rel, Nat.le_trans a.next b.next, Nat.le_trans a.size b.size, b.os.trans a.os, b.tape.trans a.tape, b.output.trans a.output, ?_, ?_⟩
  · intro k hk hno
    rw [b.frame k (Nat.lt_of_lt_of_le hk a.size) ?_, a.frame k hk hno]
    intro i o hi e
    rcases a.img i o hi with ⟨j, o', hj, hb⟩ | hge
    · exact hno j o' hj (hb.trans e)
    · omega
  · intro i o hi
    rcases b.img i o hi with ⟨j, o', hj, hb⟩ | hge
    · rcases a.img j o' hj with ⟨j', o'', hj', hb'⟩ | hge
      · exact .inl ⟨j', o'', hj', hb'.trans hb⟩
      · exact .inr (by omega)
    · exact .inr (Nat.le_trans a.size hge)
/-- A draw. -/
theorem Goes.drew {R : Map} {h : LH} {w : World} (r : HRel R h w.heap) (n : Nat) : Goes R h w R h { w with drawn := n } :=
  ⟨Map.ext_refl R, fun _ _ => rfl, r, Nat.le_refl _, Nat.le_refl _, rfl, rfl, rfl, fun _ _ _ => rfl, fun i o hi => .inl ⟨i, o, hi, rfl⟩⟩

def Map.put (R : Map) (i b d : Nat) : Map := fun j => if j = i then some (b, d) else R j
theorem Map.put_ext {R : Map} {i b d : Nat} (hi : R i = none) : R.ext (R.put i b d) := by
  intro j x hx
  unfold Map.put
  by_cases h : j = i
  · subst h; rw [hi] at hx; cases hx
  · rw [if_neg h]; exact hx
theorem Map.put_b (R : Map) (i b d : Nat) : (R.put i b d).b i = b := by simp [Map.put, Map.b]
theorem Map.put_d (R : Map) (i b d : Nat) : (R.put i b d).d i = d := by simp [Map.put, Map.d]
theorem Map.put_isSome (R : Map) (i b d : Nat) : ((R.put i b d) i).isSome = true := by simp [Map.put]

/-- A new block. -/
theorem Goes.add {R : Map} {h : LH} {w : World} (r : HRel R h w.heap) {o : LO} {x : Obj} {d : Nat} (hx : ORel (R.put h.next w.heap.size d) h.next o (some x)) :
    Goes R h w (R.put h.next w.heap.size d) (h.add o) { w with heap := w.heap.push x } := by
  have hext : R.ext (R.put h.next w.heap.size d) := Map.put_ext (r.fresh _ (Nat.le_refl _))
  have hold : ∀ i o, h.get i = some o → R.b i < w.heap.size := by
    intro i o' hi
    obtain ⟨_, h2⟩ := r.ok i o' hi
    rcases Nat.lt_or_ge (R.b i) w.heap.size with h3 | h3
    · exact h3
    · rw [Array.getElem?_eq_none h3] at h2
      cases o' with
      | cells => obtain ⟨_, _, _, h4, _⟩ := h2; cases h4
      | map => simp only [ORel] at h2; cases h2.1
      | loop => obtain ⟨_, _, h4, _⟩ := h2; cases h4
      | obj => simp only [ORel] at h2; cases h2.1
  have hne : ∀ i o, h.get i = some o → i ≠ h.next := by
    intro i o' hi e; subst e; rw [r.get_fresh (Nat.le_refl _)] at hi; cases hi
  have hb : ∀ i o, h.get i = some o → (R.put h.next w.heap.size d).b i = R.b i := fun i o' hi => Map.ext_b hext (r.ok i o' hi).1
  have hnext : 0 < h.next := by
    rcases Nat.eq_zero_or_pos h.next with h0 | h0
    · have := r.fresh 0 (by omega); rw [r.glob.1] at this; cases this
    · exact h0
  have hpos := r.glob.2.1.pos
  refine ⟨hext, fun i hi => by unfold Map.put; rw [if_neg (by omega)], ⟨?_, ?_, ?_, hext 0 _ r.glob.1, r.glob.2.1.of (by rw [Array.getElem?_push, if_neg (by omega)]), ?_⟩, Nat.le_succ _, by simp, rfl, rfl, rfl, ?_, ?_⟩
  · intro i o' hi
    rw [LH.get_add] at hi
    by_cases he : i = h.next
    · subst he
      simp only [if_true, Option.some.injEq] at hi
      subst hi
      refine ⟨Map.put_isSome _ _ _ _, ?_⟩
      rw [Map.put_b]
      simpa using hx
    · rw [if_neg he] at hi
      obtain ⟨h1, h2⟩ := r.ok i o' hi
      refine ⟨Map.ext_isSome hext h1, ?_⟩
      rw [hb i o' hi, Array.getElem?_push, if_neg (by have := hold i o' hi; omega)]
      exact h2.ext hext h1
  · intro i j oi oj hi hj e
    rw [LH.get_add] at hi hj
    by_cases h1 : i = h.next
    · by_cases h2 : j = h.next
      · rw [h1, h2]
      · rw [if_neg h2] at hj
        rw [h1, Map.put_b, hb j oj hj] at e
        have := hold j oj hj
        omega
    · rw [if_neg h1] at hi
      by_cases h2 : j = h.next
      · rw [h2, Map.put_b, hb i oi hi] at e
        have := hold i oi hi
        omega
      · rw [if_neg h2] at hj
        rw [hb i oi hi, hb j oj hj] at e
        exact r.inj i j oi oj hi hj e
  · intro i hi
    have hi' : h.next + 1 ≤ i := hi
    unfold Map.put
    rw [if_neg (by omega)]
    exact r.fresh i (by omega)
  · intro i o' hi
    rw [LH.get_add] at hi
    by_cases he : i = h.next
    · subst he; rw [Map.put_b]; omega
    · rw [if_neg he] at hi; rw [hb i o' hi]; exact r.glob.2.2 i o' hi
  · intro b hb' _
    rw [Array.getElem?_push, if_neg (by omega)]
  · intro i o' hi
    rw [LH.get_add] at hi
    by_cases he : i = h.next
    · subst he; rw [Map.put_b]; exact .inr (Nat.le_refl _)
    · rw [if_neg he] at hi
      exact .inl ⟨i, o', hi, (hb i o' hi).symm⟩

/-- A block that is forgotten. -/
theorem Goes.kill {R : Map} {h : LH} {w : World} (r : HRel R h w.heap) (i : Nat) : Goes R h w R (h.kill i) w := by
  have hk : ∀ j o, (h.kill i).get j = some o → h.get j = some o := by
    intro j o hj
    rw [LH.get_kill] at hj
    by_cases he : j = i
    · rw [if_pos he] at hj; cases hj
    · rw [if_neg he] at hj; exact hj
  exact ⟨Map.ext_refl R, fun _ _ => rfl, ⟨fun j o hj => r.ok j o (hk j o hj), fun a b oa ob ha hb e => r.inj a b oa ob (hk a oa ha) (hk b ob hb) e, r.fresh, r.glob.1, r.glob.2.1, fun j o hj => r.glob.2.2 j o (hk j o hj)⟩, Nat.le_refl _, Nat.le_refl _, rfl, rfl, rfl,
    fun _ _ _ => rfl, fun j o hj => .inl ⟨j, o, hk j o hj, rfl⟩⟩

/-- A block whose content is changed. -/
theorem Goes.put {R : Map} {h : LH} {w : World} (r : HRel R h w.heap) {i : Nat} {o o' : LO} (hi : h.get i = some o) {H : Array Obj} (hsz : H.size = w.heap.size)
    (hat : ORel R i o' H[R.b i]?) (helse : ∀ b, b ≠ R.b i → H[b]? = w.heap[b]?) : Goes R h w R (h.put i o') { w with heap := H } := by
  refine ⟨Map.ext_refl R, fun _ _ => rfl, ⟨?_, ?_, r.fresh, r.glob.1, r.glob.2.1.of (helse 0 fun e => r.glob.2.2 i o hi e.symm), ?_⟩, Nat.le_refl _, by simp [hsz], rfl, rfl, rfl, ?_, ?_⟩
  · intro j oj hj
    rw [LH.get_put] at hj
    by_cases he : j = i
    · subst he
      simp only [if_true, Option.some.injEq] at hj
      subst hj
      exact ⟨(r.ok j o hi).1, hat⟩
    · rw [if_neg he] at hj
      obtain ⟨h1, h2⟩ := r.ok j oj hj
      refine ⟨h1, ?_⟩
      show ORel R j oj H[R.b j]?
      rw [helse _ (fun e => he (r.inj j i oj o hj hi e))]
      exact h2
  · intro a b oa ob ha hb e
    rw [LH.get_put] at ha hb
    have ha' : ∃ x, h.get a = some x := by
      by_cases he : a = i
      · exact ⟨o, he ▸ hi⟩
      · rw [if_neg he] at ha; exact ⟨oa, ha⟩
    have hb' : ∃ x, h.get b = some x := by
      by_cases he : b = i
      · exact ⟨o, he ▸ hi⟩
      · rw [if_neg he] at hb; exact ⟨ob, hb⟩
    obtain ⟨x, hx⟩ := ha'
    obtain ⟨y, hy⟩ := hb'
    exact r.inj a b x y hx hy e
  · intro a oa ha
    rw [LH.get_put] at ha
    by_cases he : a = i
    · rw [he]; exact r.glob.2.2 i o hi
    · rw [if_neg he] at ha; exact r.glob.2.2 a oa ha
  · intro b _ hno
    exact helse b (fun e => hno i o hi e.symm)
  · intro j oj hj
    rw [LH.get_put] at hj
    by_cases he : j = i
    · exact .inl ⟨i, o, hi, by rw [he]⟩
    · rw [if_neg he] at hj; exact .inl ⟨j, oj, hj, rfl⟩
end
end Go.Proofs.YtedfhallhpkkhaaGreatDoor.X
