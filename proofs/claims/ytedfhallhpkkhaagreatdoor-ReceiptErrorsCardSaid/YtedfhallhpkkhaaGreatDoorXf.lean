/- Append on the local heap: whether the model's append writes in place or moves, the local block is replaced by a new one. Any program. -/
import Derived.Test.YtedfhallhpkkhaaGreatDoorXe
set_option linter.unusedVariables false
set_option linter.unusedSimpArgs false
namespace Go.Proofs.YtedfhallhpkkhaaGreatDoor.X
open Go
noncomputable section

def srcLen (x : Value) : Option Nat :=
  match x with
  | .slice _ n _ => some n
  | .string s => some s.size
  | _ => none
def srcCells (h : LH) (size n : Nat) (x : Value) : Option (List Value) :=
  match x with
  | .slice (some a) _ _ =>
    match cellsAt h a.block with
    | some (c, _) => if a.off + n * size ≤ c.length then some ((c.drop a.off).take (n * size)) else none
    | none => none
  | .slice none _ _ => if n = 0 then some [] else none
  | .string s => if n = s.size then some (byteCells s) else none
  | _ => none
theorem srcLen_ok {P : Program} {R : Map} {w : World} {x : Value} {n : Nat} (hn : srcLen x = some n) : (Builtin.lenOf (ren R x)).run P w = .ok n w := by
  unfold srcLen at hn
  split at hn
  · rename_i a m c
    simp only [Option.some.injEq] at hn; subst hn
    cases a <;> rfl
  · simp only [Option.some.injEq] at hn; subst hn; rfl
  · cases hn
theorem srcCells_ok {P : Program} {R : Map} {h : LH} {w : World} {x : Value} {size n : Nat} {xs : List Value} (r : HRel R h w.heap) (hx : wfv R x) (hc : srcCells h size n x = some xs) :
    (Builtin.firstCells size n (ren R x)).run P w = .ok (xs.map (ren R)).toArray w ∧ wfL R xs := by
  unfold srcCells at hc
  split at hc
  · rename_i a l c
    split at hc
    case h_2 => cases hc
    rename_i cs e hcs
    split at hc
    case isFalse => cases hc
    rename_i hle
    simp only [Option.some.injEq] at hc
    subst hc
    simp only [wfv] at hx
    have hspot : (⟨R.b a.block, a.off, a.spot⟩ : Addr) = ⟨R.b a.block, a.off, none⟩ := by rw [hx.2]
    refine ⟨?_, ?_⟩
    · simp only [ren, hspot, Builtin.firstCells]
      exact loadCells_ok r hcs hle
    · have hw := (wfL_iff _ _).1 (r.wf hcs)
      rw [wfL_iff]
      intro v hv
      exact hw v (List.mem_of_mem_drop (List.mem_of_mem_take hv))
  · split at hc
    case isFalse => cases hc
    simp only [Option.some.injEq] at hc
    subst hc
    exact ⟨rfl, trivial⟩
  · rename_i s
    split at hc
    case isFalse => cases hc
    rename_i hn
    simp only [Option.some.injEq] at hc
    subst hc
    subst hn
    obtain ⟨h1, h2⟩ := byteCells_plain R s
    refine ⟨?_, h2⟩
    rw [renL_eq] at h1
    rw [h1]
    simp only [ren, Builtin.firstCells, Sem.run_pure, byteCells]
    congr 1
    have he : s.extract 0 s.size = s := by
      apply ByteArray.ext
      simp [ByteArray.data_extract]
    rw [he]
    apply Array.ext'
    simp
  · cases hc

/-- In place: the new cells are written into the room behind the local block. -/
theorem appendIn_ok {P : Program} {R : Map} {h : LH} {w : World} {a : Addr} {c : List Value} {e size sLen sCap n : Nat} {xs : List Value} (r : HRel R h w.heap) (hx : (R a.block).isSome = true) (hspot : a.spot = none) (hoff : a.off = 0)
    (hc : cellsAt h a.block = some (c, e)) (he : e = 0 ∨ e = size) (hs : 0 < size) (hcap : sCap * size ≤ c.length) (hlen : sLen ≤ sCap) (hxs : xs.length = n * size) (h1 : xs.all oneCell = true) (hw : wfL R xs)
    (hneed : sLen + n ≤ sCap + R.d a.block) :
    ∃ w', (storeCells (a := (⟨R.b a.block, a.off, a.spot⟩ : Addr).add (sLen * size)) (xs.map (ren R))).run P w = .ok () w' ∧
      Goes R h w (R.put h.next (R.b a.block) (sCap + R.d a.block - (sLen + n))) ((h.kill a.block).add (.cells (c.take (sLen * size) ++ xs) size)) w' := by
  obtain ⟨cs, t, f, g1, g2, g3, g4, g5, g6⟩ := r.cells hc
  have hroom : (sCap + R.d a.block) * size ≤ c.length + R.d a.block * e := by
    rcases he with he | he
    · rw [g5 he, he]; simpa using hcap
    · rw [he, Nat.add_mul]; omega
  have hle : sLen * size + n * size ≤ c.length + R.d a.block * e := by
    have := Nat.mul_le_mul_right size hneed
    rw [Nat.add_mul] at this
    omega
  have haddr : ((⟨R.b a.block, a.off, a.spot⟩ : Addr).add (sLen * size)) = ⟨R.b a.block, sLen * size, none⟩ := by
    rw [hoff, hspot, Addr.add_mid]; simp
  rw [haddr]
  have hcell : ∀ k, k < c.length + R.d a.block * e → (w.cell? ⟨R.b a.block, k, none⟩).isSome = true := by
    intro k hk
    unfold World.cell?
    simp only [g1]
    have : k < cs.size := by omega
    simp [this]
  have hrun := run_storeCells_cells (P := P) (R.b a.block) (sLen * size) (xs.map (ren R)) 0 w
    (fun j hj => by simp only [List.length_map] at hj; exact hcell _ (by omega))
    (fun j hj => by simp only [List.length_map] at hj; exact r.notFrozen hc (by omega))
    (fun v hv => by
      obtain ⟨u, hu, rfl⟩ := List.mem_map.1 hv
      rw [oneCell_ren]
      exact List.all_eq_true.1 h1 u hu)
  simp only [Nat.add_zero] at hrun
  obtain ⟨cs', k1, k2, k3, k4, k5, k6⟩ := setCells_heap (R.b a.block) (xs.map (ren R)) (sLen * size) w cs t f g1 (by simp; omega)
  refine ⟨_, hrun, ?_⟩
  have hext : R.ext (R.put h.next (R.b a.block) (sCap + R.d a.block - (sLen + n))) := Map.put_ext (r.fresh _ (Nat.le_refl _))
  have hget : ∀ i o, ((h.kill a.block).add (.cells (c.take (sLen * size) ++ xs) size)).get i = some o →
      (i = h.next ∧ o = .cells (c.take (sLen * size) ++ xs) size) ∨ (i ≠ h.next ∧ i ≠ a.block ∧ h.get i = some o) := by
    intro i o hi
    rw [LH.get_add] at hi
    have hnext : (h.kill a.block).next = h.next := rfl
    rw [hnext] at hi
    by_cases h2 : i = h.next
    · rw [if_pos h2] at hi
      exact .inl ⟨h2, by simpa using hi.symm⟩
    · rw [if_neg h2, LH.get_kill] at hi
      by_cases h3 : i = a.block
      · rw [if_pos h3] at hi; cases hi
      · rw [if_neg h3] at hi; exact .inr ⟨h2, h3, hi⟩
  have hga := cellsAt_get hc
  have hwx := (wfL_iff _ _).1 hw
  have hwc := (wfL_iff _ _).1 g6
  have hb : ∀ i o, h.get i = some o → (R.put h.next (R.b a.block) (sCap + R.d a.block - (sLen + n))).b i = R.b i := fun i o hi => Map.ext_b hext (r.ok i o hi).1
  refine ⟨hext, fun i hi => by unfold Map.put; rw [if_neg (by omega)], ⟨?_, ?_, ?_, hext 0 _ r.glob.1, r.glob.2.1.of (k4 0 fun e => r.glob.2.2 _ _ hga e.symm), ?_⟩, Nat.le_succ _, ?_, ?_, ?_, ?_, ?_, ?_⟩
  · intro i o hi
    rcases hget i o hi with ⟨rfl, rfl⟩ | ⟨h2, h3, hi'⟩
    · refine ⟨Map.put_isSome _ _ _ _, ?_⟩
      rw [Map.put_b]
      have hl : (c.take (sLen * size) ++ xs).length = (sLen + n) * size := by
        have : sLen * size ≤ c.length := by
          have := Nat.mul_le_mul_right size hlen
          omega
        simp only [List.length_append, List.length_take, hxs, Nat.add_mul]
        omega
      have htot : (c.take (sLen * size) ++ xs).length + (sCap + R.d a.block - (sLen + n)) * size = (sCap + R.d a.block) * size := by
        rw [hl, ← Nat.add_mul]
        congr 1
        omega
      refine ⟨cs', t, f, k1, by rw [Map.put_d, htot, k2]; omega, fun k v hk => ?_, fun k hk => g4 k (by rw [Map.put_d, htot] at hk; omega), fun h0 => by omega, ?_⟩
      · have hwv : wfv R v := by
          have hm := List.mem_of_getElem? hk
          rw [List.mem_append] at hm
          rcases hm with hm | hm
          · exact hwc v (List.mem_of_mem_take hm)
          · exact hwx v hm
        rw [(ren_ext hext v hwv).1, k3 k]
        simp only [List.length_map]
        have hlt : sLen * size ≤ c.length := by
          have := Nat.mul_le_mul_right size hlen
          omega
        by_cases h4 : k < sLen * size
        · rw [if_neg (by omega)]
          rw [List.getElem?_append_left (by simp; omega)] at hk
          rw [List.getElem?_take, if_pos h4] at hk
          exact g3 k v hk
        · rw [List.getElem?_append_right (by simp; omega)] at hk
          have hlen' : (c.take (sLen * size)).length = sLen * size := by simp; omega
          rw [hlen'] at hk
          have hkx := (List.getElem?_eq_some_iff.1 hk).1
          rw [if_pos (by omega), List.getElem?_map, hk]; rfl
      · rw [wfL_iff]
        intro v hv
        rw [List.mem_append] at hv
        rcases hv with hv | hv
        · exact (ren_ext hext v (hwc v (List.mem_of_mem_take hv))).2
        · exact (ren_ext hext v (hwx v hv)).2
    · obtain ⟨h4, h5⟩ := r.ok i o hi'
      refine ⟨Map.ext_isSome hext h4, ?_⟩
      rw [hb i o hi', k4 _ (fun e => h3 (r.inj i a.block o _ hi' hga e))]
      exact h5.ext hext h4
  · intro i j oi oj hi hj e'
    rcases hget i oi hi with ⟨rfl, rfl⟩ | ⟨h2, h3, hi'⟩
    · rcases hget j oj hj with ⟨rfl, rfl⟩ | ⟨h4, h5, hj'⟩
      · rfl
      · rw [Map.put_b, hb j oj hj'] at e'
        exact absurd (r.inj a.block j _ oj hga hj' e').symm h5
    · rcases hget j oj hj with ⟨rfl, rfl⟩ | ⟨h4, h5, hj'⟩
      · rw [Map.put_b, hb i oi hi'] at e'
        exact absurd (r.inj i a.block oi _ hi' hga e') h3
      · rw [hb i oi hi', hb j oj hj'] at e'
        exact r.inj i j oi oj hi' hj' e'
  · intro i hi
    have hi' : h.next + 1 ≤ i := hi
    unfold Map.put
    rw [if_neg (by omega)]
    exact r.fresh i (by omega)
  · intro i o hi
    rcases hget i o hi with ⟨rfl, rfl⟩ | ⟨h2, h3, hi'⟩
    · rw [Map.put_b]; exact r.glob.2.2 _ _ hga
    · rw [hb i o hi']; exact r.glob.2.2 i o hi'
  · rw [k5]; exact Nat.le_refl _
  · rw [k6]
  · rw [k6]
  · rw [k6]
  · intro b hb' hno
    exact k4 b (fun e' => hno a.block _ hga e'.symm)
  · intro i o hi
    rcases hget i o hi with ⟨rfl, rfl⟩ | ⟨h2, h3, hi'⟩
    · rw [Map.put_b]; exact .inl ⟨a.block, _, hga, rfl⟩
    · exact .inl ⟨i, o, hi', (hb i o hi').symm⟩

/-- A new row with room behind it. -/
theorem newOpen_ok {R : Map} {h : LH} {w : World} {c : List Value} {size d : Nat} {rest : Array Value} (r : HRel R h w.heap) (hw : wfL R c) (hs : 0 < size) (hrest : d * size ≤ rest.size) (elem : TypeId) :
    Goes R h w (R.put h.next w.heap.size d) (h.add (.cells c size)) { w with heap := w.heap.push (.cells ((c.map (ren R)).toArray ++ rest) elem) } := by
  refine Goes.add r ?_
  have hext : R.ext (R.put h.next w.heap.size d) := Map.put_ext (r.fresh _ (Nat.le_refl _))
  refine ⟨_, elem, (0, 0), rfl, by rw [Map.put_d]; simp; omega, fun k v hk => ?_, fun k _ hk => by simp at hk, fun h0 => by omega, (renL_ext hext c hw).2⟩
  rw [(ren_ext hext v ((wfL_iff _ _).1 hw v (List.mem_of_getElem? hk))).1]
  have hlt : k < (c.map (ren R)).toArray.size := by simpa using (List.getElem?_eq_some_iff.1 hk).1
  rw [Array.getElem?_append_left hlt]
  simp [hk]

def isInt : TypeDesc → Bool
  | .int _ => true
  | _ => false
theorem isInt_match : ∀ xd : TypeDesc, ¬ isInt xd = true → (xd matches .int _) = false := by
  intro xd h
  cases xd <;> first | rfl | exact absurd rfl h
def lappend (P : Program) (h : LH) (argTypes : Array TypeId) (args : Array Value) : Option (Value × LH) :=
  match argTypes[0]?, argTypes[1]?, args[0]?, args[1]? with
  | some sType, some xType, some s, some x =>
    match P.underlying sType, P.underlying xType with
    | some (.slice elem), some xd =>
      if isInt xd = true then none else
      match P.info? elem with
      | some ie =>
        match ie.zero, srcLen x with
        | some z, some n =>
          match srcCells h ie.size n x with
          | some xs =>
            match s with
            | .slice base sLen sCap =>
              if n = 0 then (if sLen ≤ sCap then some (s, h) else none) else
              if 0 < ie.size ∧ 0 < ie.bytes ∧ 2 * (sLen + n) * ie.bytes ≤ 2 ^ 48 ∧ xs.length = n * ie.size ∧ xs.all oneCell = true ∧ z.cells.size = ie.size then
                match base with
                | none => if sLen = 0 ∧ sCap = 0 then some (.slice (some ⟨h.next, 0, none⟩) n n, h.add (.cells xs ie.size)) else none
                | some a =>
                  match cellsAt h a.block with
                  | some (c, e) =>
                    if a.off = 0 ∧ (e = 0 ∨ e = ie.size) ∧ sCap * ie.size ≤ c.length ∧ sLen ≤ sCap then
                      some (.slice (some ⟨h.next, 0, none⟩) (sLen + n) (sLen + n), (h.kill a.block).add (.cells (c.take (sLen * ie.size) ++ xs) ie.size))
                    else none
                  | none => none
              else none
            | _ => none
          | none => none
        | _, _ => none
      | none => none
    | _, _ => none
  | _, _, _, _ => none
theorem zeroCells_size (z : Array Value) (n : Nat) : (Builtin.zeroCells z n).size = n * z.size := by simp [Builtin.zeroCells]
set_option maxHeartbeats 2000000 in
theorem lappend_ok {P : Program} {R : Map} {h h' : LH} {w : World} {argTypes : Array TypeId} {type : TypeId} {args : Array Value} {v : Value} (r : HRel R h w.heap) (hx : wfA R args)
    (hv : lappend P h argTypes args = some (v, h')) : OpOk P R h w (Builtin.append_ argTypes type (renA R args)) v h' := by
  unfold lappend at hv
  split at hv
  case h_2 => cases hv
  rename_i sType xType s x ht0 ht1 ha0 ha1
  split at hv
  case h_2 => cases hv
  rename_i elem xd hu hxu
  split at hv
  case isTrue => cases hv
  rename_i hint
  split at hv
  case h_2 => cases hv
  rename_i ie hie
  split at hv
  case h_2 => cases hv
  rename_i z n hz hn
  split at hv
  case h_2 => cases hv
  rename_i xs hxs
  split at hv
  case h_2 => cases hv
  rename_i base sLen sCap
  rw [wfA_iff] at hx
  have hws := hx _ (Array.mem_of_getElem? ha0)
  have hwx := hx _ (Array.mem_of_getElem? ha1)
  have hr0 : (renA R args)[0]? = some (ren R (.slice base sLen sCap)) := by rw [renA_eq]; simp [ha0]
  have hr1 : (renA R args)[1]? = some (ren R x) := by rw [renA_eq]; simp [ha1]
  obtain ⟨hsrc, hwxs⟩ := srcCells_ok (P := P) r hwx hxs
  have hlen := srcLen_ok (P := P) (R := R) (w := w) hn
  split at hv
  · rename_i hn0
    split at hv
    case isFalse => cases hv
    rename_i hle
    simp only [Option.some.injEq, Prod.mk.injEq] at hv
    obtain ⟨rfl, rfl⟩ := hv
    subst hn0
    have hx0 : xs = [] := by
      unfold srcCells at hxs
      split at hxs
      · split at hxs
        · split at hxs
          · simp at hxs; exact hxs
          · cases hxs
        · cases hxs
      · simp at hxs; exact hxs
      · rename_i s
        split at hxs
        · rename_i h0
          simp only [Option.some.injEq] at hxs
          subst hxs
          have : s.data.toList.length = 0 := by simpa using h0.symm
          simp [byteCells, List.eq_nil_of_length_eq_zero this]
        · cases hxs
      · cases hxs
    subst hx0
    simp only [List.map_nil] at hsrc
    cases base with
    | none =>
      refine ⟨R, w, ?_, hws, Goes.refl r⟩
      simp only [ren] at hr0 ⊢
      cases xd <;> first
        | exact absurd rfl hint
        | simp only [Builtin.append_, ht0, ht1, hr0, hr1, Sem.run_bind, run_underlying hu, run_underlying hxu, Result.andThen_ok, sizeOf, typeInfo, run_program, hie, Sem.run_pure, Bool.false_eq_true, if_false, hlen,
            Nat.add_zero, if_pos hle, Bool.not_false, if_true, hsrc]
    | some a =>
      refine ⟨R, w, ?_, hws, Goes.refl r⟩
      simp only [ren] at hr0 ⊢
      have hle' : sLen ≤ sCap + R.d a.block := by omega
      cases xd <;> first
        | exact absurd rfl hint
        | simp only [Builtin.append_, ht0, ht1, hr0, hr1, Sem.run_bind, run_underlying hu, run_underlying hxu, Result.andThen_ok, sizeOf, typeInfo, run_program, hie, Sem.run_pure, Bool.false_eq_true, if_false, hlen,
            Nat.add_zero, if_pos hle', Bool.not_false, if_true, hsrc, storeCells, List.map_nil]
  · rename_i hn0
    split at hv
    case isFalse => cases hv
    rename_i hcond
    obtain ⟨hsz, hby, hroom, hxl, hone, hzs⟩ := hcond
    have hbz : ie.bytes ≠ 0 := by omega
    -- the model moves to a new row
    have grow : ∀ (cap : Nat) (old : List Value), cap < sLen + n → wfL R old → old.length = sLen * ie.size →
        ∀ base' : Option Addr, (∀ w1 : World, HRel R h w1.heap → (Builtin.firstCells ie.size sLen (.slice base' sLen cap)).run P w1 = .ok (old.map (ren R)).toArray w1) →
        (renA R args)[0]? = some (.slice base' sLen cap) →
        OpOk P R h w (Builtin.append_ argTypes type (renA R args)) (.slice (some ⟨h.next, 0, none⟩) (sLen + n) (sLen + n)) (h.add (.cells (old ++ xs) ie.size)) := by
      intro cap old hcap hold hol base' hfirst hr0'
      let q := Question.appendCap (sLen + n) cap elem
      let nc := q.cut (w.tape w.drawn q)
      have hnc : sLen + n ≤ nc := by simp only [nc, q, Question.cut]; omega
      let w1 : World := { w with drawn := w.drawn + 1 }
      have hch : (choose q).run P w = .ok nc w1 := by rw [run_choose]; rfl
      have g1 := Goes.drew (w := w) r (w.drawn + 1)
      have hfit : ¬ (Builtin.nextslicecap (sLen + n) cap * ie.bytes > 2 ^ 48) := by
        have := Room.nextslicecap_le' hcap
        have := Nat.mul_le_mul_right ie.bytes this
        omega
      have hfirst1 := hfirst w1 g1.rel
      have hsrc1 : (Builtin.firstCells ie.size n (ren R x)).run P w1 = .ok (xs.map (ren R)).toArray w1 := (srcCells_ok (P := P) (w := w1) g1.rel hwx hxs).1
      have g2 := newOpen_ok (w := w1) (c := old ++ xs) (size := ie.size) (d := nc - (sLen + n)) (rest := Builtin.zeroCells z.cells (nc - (sLen + n))) g1.rel
        (by rw [wfL_iff] at hold hwxs ⊢; intro v hv; rw [List.mem_append] at hv; exact hv.elim (hold v) (hwxs v)) hsz (by rw [zeroCells_size, hzs]; exact Nat.le_refl _) elem
      refine ⟨_, _, ?_, ⟨Map.put_isSome _ _ _ _, rfl⟩, g1.trans g2⟩
      have hrow : ((old ++ xs).map (ren R)).toArray ++ Builtin.zeroCells z.cells (nc - (sLen + n)) = (old.map (ren R)).toArray ++ (xs.map (ren R)).toArray ++ Builtin.zeroCells z.cells (nc - (sLen + n)) := by simp
      have hnew : (newRow elem ((old.map (ren R)).toArray ++ (xs.map (ren R)).toArray ++ Builtin.zeroCells z.cells (nc - (sLen + n)))).run P w1 =
          .ok ⟨w1.heap.size, 0, none⟩ { w1 with heap := w1.heap.push (.cells (((old ++ xs).map (ren R)).toArray ++ Builtin.zeroCells z.cells (nc - (sLen + n))) elem) } := by
        rw [hrow]; simp [newRow]
      have hneed : ¬ (sLen + n ≤ cap) := by omega
      have hren : ren (R.put h.next w1.heap.size (nc - (sLen + n))) (.slice (some ⟨h.next, 0, none⟩) (sLen + n) (sLen + n)) = .slice (some ⟨w1.heap.size, 0, none⟩) (sLen + n) nc := by
        simp only [ren, Map.put_b, Map.put_d]
        congr 1
        omega
      rw [hren]
      cases xd <;> first
        | exact absurd rfl hint
        | (simp only [Builtin.append_, ht0, ht1, hr0', hr1, Sem.run_bind, run_underlying hu, run_underlying hxu, Result.andThen_ok, sizeOf, typeInfo, run_program, hie, Sem.run_pure, Bool.false_eq_true, if_false, hlen, if_neg hneed,
            false_or, hbz, and_false, if_neg hfit, Bool.not_false, if_true, zeroValue, hz, run_askRoom]
           show ((choose q).run P w).andThen _ = _
           rw [hch]
           simp only [Result.andThen_ok, Sem.run_bind, run_askRoom, hfirst1, hsrc1, hnew, Sem.run_pure])
    split at hv
    · split at hv
      case isFalse => cases hv
      rename_i h0
      obtain ⟨rfl, rfl⟩ := h0
      simp only [Option.some.injEq, Prod.mk.injEq] at hv
      obtain ⟨rfl, rfl⟩ := hv
      have := grow 0 [] (by omega) trivial (by simp) none (fun _ _ => rfl) hr0
      simpa using this
    · rename_i a
      split at hv
      case h_2 => cases hv
      rename_i c e hc
      split at hv
      case isFalse => cases hv
      rename_i h2
      obtain ⟨hoff, he, hcap, hlc⟩ := h2
      simp only [Option.some.injEq, Prod.mk.injEq] at hv
      obtain ⟨rfl, rfl⟩ := hv
      simp only [wfv] at hws
      have hspot : (⟨R.b a.block, a.off, a.spot⟩ : Addr) = ⟨R.b a.block, a.off, none⟩ := by rw [hws.2]
      have hsl : sLen * ie.size ≤ c.length := by
        have := Nat.mul_le_mul_right ie.size hlc
        omega
      by_cases hneed : sLen + n ≤ sCap + R.d a.block
      · obtain ⟨w', hst, hg⟩ := appendIn_ok (P := P) r hws.1 hws.2 hoff hc he hsz hcap hlc hxl hone hwxs hneed
        refine ⟨_, w', ?_, ⟨Map.put_isSome _ _ _ _, rfl⟩, hg⟩
        simp only [ren] at hr0
        have hren : ren (R.put h.next (R.b a.block) (sCap + R.d a.block - (sLen + n))) (.slice (some ⟨h.next, 0, none⟩) (sLen + n) (sLen + n)) = .slice (some ⟨R.b a.block, a.off, a.spot⟩) (sLen + n) (sCap + R.d a.block) := by
          simp only [ren, Map.put_b, Map.put_d, hoff, hws.2]
          congr 1
          omega
        rw [hren]
        cases xd <;> first
          | exact absurd rfl hint
          | simp only [Builtin.append_, ht0, ht1, hr0, hr1, Sem.run_bind, run_underlying hu, run_underlying hxu, Result.andThen_ok, sizeOf, typeInfo, run_program, hie, Sem.run_pure, Bool.false_eq_true, if_false, hlen, if_pos hneed,
              Bool.not_false, if_true, hsrc, hst]
      · have hgrow := grow (sCap + R.d a.block) (c.take (sLen * ie.size)) (by omega)
          (by have := (wfL_iff _ _).1 (r.wf hc); rw [wfL_iff]; intro v hv; exact this v (List.mem_of_mem_take hv)) (by simp; omega) (some ⟨R.b a.block, a.off, a.spot⟩)
          (fun w1 r1 => by
            simp only [Builtin.firstCells, hws.2, hoff]
            have := loadCells_ok (P := P) r1 hc (o := 0) (n := sLen * ie.size) (by omega)
            simpa using this) hr0
        obtain ⟨R', w', hrun, hwf, hg⟩ := hgrow
        refine ⟨R', w', hrun, hwf, ?_⟩
        -- forget the old block, too
        have hk := Goes.kill hg.rel a.block
        have hlt := r.lt hws.1
        have heq : (h.add (.cells (c.take (sLen * ie.size) ++ xs) ie.size)).kill a.block = ((h.kill a.block).add (.cells (c.take (sLen * ie.size) ++ xs) ie.size)) ∨ True := .inr trivial
        refine ⟨hg.ext, hg.old, ⟨?_, ?_, hg.rel.fresh, hg.rel.glob.1, hg.rel.glob.2.1, ?_⟩, hg.next, hg.size, hg.os, hg.tape, hg.output, hg.frame, ?_⟩
        all_goals
          have hsub : ∀ i o, ((h.kill a.block).add (.cells (c.take (sLen * ie.size) ++ xs) ie.size)).get i = some o → (h.add (.cells (c.take (sLen * ie.size) ++ xs) ie.size)).get i = some o := by
            intro i o hi
            rw [LH.get_add] at hi ⊢
            have hnext : (h.kill a.block).next = h.next := rfl
            rw [hnext] at hi
            by_cases h2 : i = h.next
            · rw [if_pos h2] at hi ⊢; exact hi
            · rw [if_neg h2, LH.get_kill] at hi
              rw [if_neg h2]
              by_cases h3 : i = a.block
              · rw [if_pos h3] at hi; cases hi
              · rw [if_neg h3] at hi; exact hi
        · intro i o hi; exact hg.rel.ok i o (hsub i o hi)
        · intro i j oi oj hi hj; exact hg.rel.inj i j oi oj (hsub i oi hi) (hsub j oj hj)
        · intro i o hi; exact hg.rel.glob.2.2 i o (hsub i o hi)
        · intro i o hi; exact hg.img i o (hsub i o hi)
end
end Go.Proofs.YtedfhallhpkkhaaGreatDoor.X
