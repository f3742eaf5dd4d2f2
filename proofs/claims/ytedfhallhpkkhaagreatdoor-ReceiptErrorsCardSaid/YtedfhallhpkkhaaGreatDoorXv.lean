/- Regions that draw: plain facts on the plan and on the records of the local run. Any program. -/
import Derived.Test.YtedfhallhpkkhaaGreatDoorXo
import Derived.Test.YtedfhallhpkkhaaGreatDoorXn
set_option linter.unusedVariables false
set_option linter.unusedSimpArgs false
namespace Go.Proofs.YtedfhallhpkkhaaGreatDoor.X
open Go Go.RowKit

theorem resT_get (t : T Value) : ∀ (ts : List Tmp) (k : Nat), (resT t ts).get k = if k ∈ ts then t.get k else none
  | [], k => by simp only [List.not_mem_nil, if_false]; rfl
  | x :: l, k => by
    have ih := resT_get t l k
    show (Option.rec (motive := fun _ => T Value) (resT t l) (fun v => T.set (resT t l) x (some v)) (T.get t x) : T Value).get k = _
    cases hx : t.get x with
    | none =>
      show (resT t l).get k = _
      rw [ih]
      by_cases hk : k = x
      · subst hk; simp [hx]
      · simp [hk]
    | some v =>
      show (T.set (resT t l) x (some v)).get k = _
      rw [T.get_set, ih]
      by_cases hk : k = x
      · subst hk; simp [hx]
      · simp [hk]

mutual
theorem idsOk_wf {R R' : Map} {f : Nat → Bool} (hf : ∀ x, (R x).isSome = true → f x = true → (R' x).isSome = true) : ∀ v : Value, wfv R v → idsOk f v = true → wfv R' v
  | .pointer (some a), hw, h => by simp only [wfv, idsOk] at hw h ⊢; exact ⟨hf _ hw.1 h, hw.2⟩
  | .slice (some a) _ _, hw, h => by simp only [wfv, idsOk] at hw h ⊢; exact ⟨hf _ hw.1 h, hw.2⟩
  | .map (some r), hw, h => by simp only [wfv, idsOk] at hw h ⊢; exact hf _ hw h
  | .func fn fs cs, hw, h => by
    simp only [wfv, idsOk, Bool.and_eq_true] at hw h ⊢
    refine ⟨?_, idsOkA_wf hf fs hw.2.1 h.2.1, idsOkA_wf hf cs hw.2.2 h.2.2⟩
    cases fn <;> simp_all [wfFn]
  | .iface t v, hw, h => by simp only [wfv, idsOk] at hw h ⊢; exact idsOk_wf hf v hw h
  | .agg cs, hw, h => by simp only [wfv, idsOk] at hw h ⊢; exact idsOkA_wf hf cs hw h
  | .tuple cs, hw, h => by simp only [wfv, idsOk] at hw h ⊢; exact idsOkA_wf hf cs hw h
  | .pointer none, _, _ => by simp [wfv]
  | .slice none _ _, _, _ => by simp [wfv]
  | .map none, _, _ => by simp [wfv]
  | .chan none, _, _ => by simp [wfv]
  | .chan (some _), hw, _ => by simp [wfv] at hw
  | .bool _, _, _ => by simp [wfv]
  | .int _ _, _, _ => by simp [wfv]
  | .float _ _, _, _ => by simp [wfv]
  | .complex _ _ _, _, _ => by simp [wfv]
  | .string _, _, _ => by simp [wfv]
  | .nilFunc, _, _ => by simp [wfv]
  | .nilIface, _, _ => by simp [wfv]
theorem idsOkA_wf {R R' : Map} {f : Nat → Bool} (hf : ∀ x, (R x).isSome = true → f x = true → (R' x).isSome = true) : ∀ a : Array Value, wfA R a → idsOkA f a = true → wfA R' a
  | ⟨l⟩, hw, h => by simp only [wfA, idsOkA] at hw h ⊢; exact idsOkL_wf hf l hw h
theorem idsOkL_wf {R R' : Map} {f : Nat → Bool} (hf : ∀ x, (R x).isSome = true → f x = true → (R' x).isSome = true) : ∀ l : List Value, wfL R l → idsOkL f l = true → wfL R' l
  | [], _, _ => trivial
  | v :: l, hw, h => by
    simp only [wfL, idsOkL, Bool.and_eq_true] at hw h ⊢
    exact ⟨idsOk_wf hf v hw.1 h.1, idsOkL_wf hf l hw.2 h.2⟩
end
theorem addrEq_eq {a b : Addr} (h : addrEq a b = true) : a = b := by
  obtain ⟨p, q, s⟩ := a
  obtain ⟨p', q', s'⟩ := b
  simp only [addrEq, Bool.and_eq_true, Nat.beq_eq] at h
  obtain ⟨⟨⟨h1, h2⟩, h3⟩, h4⟩ := h
  cases s <;> cases s' <;> simp_all
theorem bytes_ext {a b : ByteArray} (h : a.data.toList = b.data.toList) : a = b := by
  obtain ⟨⟨l⟩⟩ := a
  obtain ⟨⟨m⟩⟩ := b
  simp_all
mutual
theorem veq_eq : ∀ a b : Value, veq a b = true → a = b
  | .agg ⟨a⟩, b, h => by
    cases b with
    | agg c => obtain ⟨c⟩ := c; rw [veqL_eq a c (by simpa only [veq] using h)]
    | _ => simp [veq] at h
  | .tuple ⟨a⟩, b, h => by
    cases b with
    | tuple c => obtain ⟨c⟩ := c; rw [veqL_eq a c (by simpa only [veq] using h)]
    | _ => simp [veq] at h
  | .bool a, b, h => by cases b <;> simp_all [veq]
  | .int k a, b, h => by
    cases b with
    | int j c => simp only [veq, Bool.and_eq_true, intEqF_eq, beq_iff_eq] at h; rw [kindF_eq h.1, h.2]
    | _ => simp [veq] at h
  | .string a, b, h => by
    cases b with
    | string c => simp only [veq, beq_iff_eq] at h; rw [bytes_ext h]
    | _ => simp [veq] at h
  | .pointer (some a), b, h => by
    cases b with
    | pointer c => cases c with
      | none => simp [veq] at h
      | some c => simp only [veq] at h; rw [addrEq_eq h]
    | _ => simp [veq] at h
  | .pointer none, b, h => by
    cases b with
    | pointer c => cases c <;> simp_all [veq]
    | _ => simp [veq] at h
  | .slice (some a) _ _, b, h => by
    cases b with
    | slice c _ _ => cases c with
      | none => simp [veq] at h
      | some c => simp only [veq, Bool.and_eq_true, Nat.beq_eq] at h; rw [addrEq_eq h.1, h.2.1, h.2.2]
    | _ => simp [veq] at h
  | .slice none _ _, b, h => by
    cases b with
    | slice c _ _ => cases c with
      | some c => simp [veq] at h
      | none => simp only [veq, Bool.and_eq_true, Nat.beq_eq] at h; rw [h.1, h.2]
    | _ => simp [veq] at h
  | .map (some a), b, h => by
    cases b with
    | map c => cases c with
      | none => simp [veq] at h
      | some c => simp only [veq, Nat.beq_eq] at h; rw [h]
    | _ => simp [veq] at h
  | .map none, b, h => by
    cases b with
    | map c => cases c <;> simp_all [veq]
    | _ => simp [veq] at h
  | .nilFunc, b, h => by cases b <;> simp_all [veq]
  | .nilIface, b, h => by cases b <;> simp_all [veq]
  | .float _ _, b, h => by cases b <;> simp [veq] at h
  | .complex _ _ _, b, h => by cases b <;> simp [veq] at h
  | .chan _, b, h => by cases b <;> simp [veq] at h
  | .func _ _ _, b, h => by cases b <;> simp [veq] at h
  | .iface _ _, b, h => by cases b <;> simp [veq] at h
theorem veqL_eq : ∀ a b : List Value, veqL a b = true → a = b
  | [], [], _ => rfl
  | [], _ :: _, h => by simp [veqL] at h
  | _ :: _, [], h => by simp [veqL] at h
  | a :: l, b :: m, h => by
    simp only [veqL, Bool.and_eq_true] at h
    rw [veq_eq a b h.1, veqL_eq l m h.2]
end

/-! ### The records and the last activation -/
abbrev Ent := Nat × LAct × Value
def NRec.ent (r : NRec) : Ent := (r.i, r.la, r.v)
def DSeg.ent (s : DSeg) : Ent := (s.e, s.la, s.v)
def entsOf (ds : List DSeg) (last : List NRec) : List Ent := ds.flatMap (fun s => s.ns.map NRec.ent ++ [s.ent]) ++ last.map NRec.ent
def Puts (ops : Array Oper) : List Ent → LAct → LAct → Prop
  | [], la, laF => laF = la
  | e :: l, la, laF => e.2.1 = restr la (looksOf ops e.1) ∧ ∃ la1, la.put (dstOf ops e.1) e.2.2 = some la1 ∧ Puts ops l la1 laF
theorem Puts.append {ops : Array Oper} : ∀ {l m : List Ent} {la lb laF : LAct}, Puts ops l la lb → Puts ops m lb laF → Puts ops (l ++ m) la laF
  | [], m, la, lb, laF, h, h' => by cases h; exact h'
  | e :: l, m, la, lb, laF, ⟨h1, la1, h2, h3⟩, h' => ⟨h1, la1, h2, Puts.append h3 h'⟩
theorem put_get {la la1 : LAct} {dst : Option Tmp} {v : Value} (h : la.put dst v = some la1) : la1.n = la.n ∧ (∀ t, dst ≠ some t → la1.tmps.get t = la.tmps.get t) ∧ (∀ t, dst = some t → t < la.n ∧ la1.tmps.get t = some v) := by
  obtain ⟨t, n, m⟩ := la
  unfold LAct.put at h
  cases dst with
  | none => simp only [Option.some.injEq] at h; subst h; exact ⟨rfl, fun _ _ => rfl, fun t h => by cases h⟩
  | some d =>
    simp only at h
    split at h
    case isFalse => cases h
    rename_i hd
    simp only [Option.some.injEq] at h
    subst h
    refine ⟨rfl, fun k hk => ?_, fun k hk => ?_⟩
    · simp only [T.get_set]; rw [if_neg (fun e => hk (by rw [e]))]
    · simp only [Option.some.injEq] at hk
      subst hk
      exact ⟨hd, by simp only [T.get_set, if_true]⟩
theorem Puts.keep {ops : Array Oper} : ∀ {l : List Ent} {la laF : LAct}, Puts ops l la laF → laF.n = la.n ∧ ∀ t, (∀ e ∈ l, dstOf ops e.1 ≠ some t) → laF.tmps.get t = la.tmps.get t
  | [], la, laF, h => by cases h; exact ⟨rfl, fun _ _ => rfl⟩
  | e :: l, la, laF, ⟨h1, la1, h2, h3⟩ => by
    obtain ⟨h4, h5⟩ := Puts.keep h3
    obtain ⟨h6, h7, h8⟩ := put_get h2
    exact ⟨h4.trans h6, fun t ht => (h5 t fun e' he' => ht e' (by simp [he'])).trans (h7 t (ht e (by simp)))⟩
theorem Puts.dom {ops : Array Oper} : ∀ {l : List Ent} {la laF : LAct}, Puts ops l la laF → (∀ k v, la.tmps.get k = some v → k < la.n) → ∀ k v, laF.tmps.get k = some v → k < laF.n
  | [], la, laF, h, hd => by cases h; exact hd
  | e :: l, la, laF, ⟨h1, la1, h2, h3⟩, hd => by
    refine Puts.dom h3 fun k v hk => ?_
    obtain ⟨h6, h7, h8⟩ := put_get h2
    rw [h6]
    by_cases he : dstOf ops e.1 = some k
    · exact (h8 k he).1
    · rw [h7 k he] at hk; exact hd k v hk
theorem ord_spec {ops : Array Oper} {M : List Nat} : ∀ {pre : List Nat} {i : Nat} {l : List Nat}, ord ops M pre (i :: l) = true →
    (∀ t ∈ looksOf ops i, (∀ j ∈ pre, dstOf ops j = some t → Nat.testBit (M.getD i 0) j = true) ∧ ∀ j ∈ l, dstOf ops j = some t → Nat.testBit (M.getD j 0) i = true) ∧ ord ops M (i :: pre) l = true := by
  intro pre i l h
  simp only [ord, Bool.and_eq_true, List.all_eq_true, bne_iff_ne, Bool.or_eq_true] at h
  refine ⟨fun t ht => ⟨fun j hj hd => ?_, fun j hj hd => ?_⟩, h.2⟩
  · rcases (h.1 t ht).1 j hj with h1 | h1
    · exact absurd hd h1
    · exact h1
  · rcases (h.1 t ht).2 j hj with h1 | h1
    · exact absurd hd h1
    · exact h1
theorem dist_spec {ops : Array Oper} : ∀ {i : Nat} {l : List Nat}, dist ops (i :: l) = true → (∀ j ∈ l, j ≠ i ∧ ∀ t, dstOf ops i = some t → dstOf ops j ≠ some t) ∧ dist ops l = true := by
  intro i l h
  simp only [dist, Bool.and_eq_true, List.all_eq_true, bne_iff_ne, Bool.or_eq_true, beq_iff_eq] at h
  refine ⟨fun j hj => ⟨(h.1 j hj).1, fun t ht hjt => ?_⟩, h.2⟩
  rcases (h.1 j hj).2 with h1 | h1
  · rw [h1] at ht; cases ht
  · exact h1 (hjt.trans ht.symm)
/-- A slot that is looked at: all who write it are waited for, and it is as in the end; or one who writes it waits, and it is as in the beginning. -/
def LookOk (ops : Array Oper) (M : List Nat) (all : List Nat) (la0 laF : LAct) (e : Ent) : Prop :=
  ∀ t ∈ looksOf ops e.1, (e.2.1.tmps.get t = laF.tmps.get t ∧ ∀ j ∈ all, dstOf ops j = some t → Nat.testBit (M.getD e.1 0) j = true) ∨
    (e.2.1.tmps.get t = la0.tmps.get t ∧ ∃ j ∈ all, dstOf ops j = some t ∧ (j = e.1 ∨ Nat.testBit (M.getD j 0) e.1 = true))
theorem Puts.at {ops : Array Oper} {M : List Nat} {la0 : LAct} : ∀ {l : List Ent} {pre : List Nat} {la laF : LAct}, Puts ops l la laF → ord ops M pre (l.map (·.1)) = true → dist ops (l.map (·.1)) = true →
    (∀ t, (∀ j ∈ pre, dstOf ops j ≠ some t) → la.tmps.get t = la0.tmps.get t) → (∀ j ∈ pre, ∀ k ∈ l.map (·.1), ∀ t, dstOf ops j = some t → dstOf ops k ≠ some t) → ∀ e ∈ l,
    e.2.1.n = laF.n ∧ e.2.1.marks = [] ∧ (∀ t, t ∉ looksOf ops e.1 → e.2.1.tmps.get t = none) ∧ LookOk ops M (pre ++ l.map (·.1)) la0 laF e ∧ (∀ t, dstOf ops e.1 = some t → laF.tmps.get t = some e.2.2)
  | [], pre, la, laF, h, _, _, _, _, e, he => by cases he
  | x :: l, pre, la, laF, ⟨h1, la1, h2, h3⟩, hl, hd, h0, hpre, e, he => by
    obtain ⟨hl1, hl2⟩ := ord_spec hl
    obtain ⟨hd1, hd2⟩ := dist_spec hd
    obtain ⟨h6, h7, h8⟩ := put_get h2
    rcases List.mem_cons.1 he with rfl | he
    · obtain ⟨h4, h5⟩ := Puts.keep h3
      rw [h1]
      have hget : ∀ t, (restr la (looksOf ops e.1)).tmps.get t = if t ∈ looksOf ops e.1 then la.tmps.get t else none := fun t => resT_get _ _ _
      refine ⟨(h4.trans h6).symm, rfl, fun t ht => by rw [hget, if_neg ht], fun t ht => ?_, fun t ht => ?_⟩
      · rw [h1, hget, if_pos ht]
        by_cases hw : ∃ j ∈ e.1 :: l.map (·.1), dstOf ops j = some t
        · obtain ⟨j, hj, hjt⟩ := hw
          refine .inr ⟨h0 t fun j' hj' he' => hpre j' hj' j (by simpa using hj) t he' hjt, j, by simp only [List.map_cons, List.mem_append]; exact .inr hj, hjt, ?_⟩
          rcases List.mem_cons.1 hj with rfl | hj
          · exact .inl rfl
          · exact .inr ((hl1 t ht).2 j hj hjt)
        · have hno : ∀ j ∈ e.1 :: l.map (·.1), dstOf ops j ≠ some t := fun j hj hjt => hw ⟨j, hj, hjt⟩
          refine .inl ⟨?_, fun j hj hjt => ?_⟩
          · rw [h5 t fun e' he' => hno e'.1 (List.mem_cons_of_mem _ (List.mem_map.2 ⟨e', he', rfl⟩)), h7 t (hno _ (by simp))]
          · rcases List.mem_append.1 hj with hj | hj
            · exact (hl1 t ht).1 j hj hjt
            · exact absurd hjt (hno j hj)
      · rw [h5 t fun e' he' => (hd1 e'.1 (List.mem_map.2 ⟨e', he', rfl⟩)).2 t ht, (h8 t ht).2]
    · have := Puts.at (M := M) (la0 := la0) (pre := x.1 :: pre) h3 hl2 hd2 (fun t ht => by
        rw [h7 t (ht x.1 (by simp))]
        exact h0 t fun j hj => ht j (by simp [hj])) (fun j hj k hk t ht => by
        rcases List.mem_cons.1 hj with rfl | hj
        · exact (hd1 k hk).2 t ht
        · exact hpre j hj k (by simp only [List.map_cons, List.mem_cons]; exact .inr hk) t ht) e he
      obtain ⟨g1, g2, g3, g4, g5⟩ := this
      refine ⟨g1, g2, g3, fun t ht => ?_, g5⟩
      rcases g4 t ht with ⟨k1, k2⟩ | ⟨k1, j, k2, k3⟩
      · refine .inl ⟨k1, fun j hj => k2 j ?_⟩
        simp only [List.map_cons, List.cons_append, List.mem_append, List.mem_cons] at hj ⊢
        rcases hj with hj | hj | hj
        · exact .inr (.inl hj)
        · exact .inl hj
        · exact .inr (.inr hj)
      · refine .inr ⟨k1, j, ?_, k3⟩
        simp only [List.map_cons, List.cons_append, List.mem_append, List.mem_cons] at k2 ⊢
        rcases k2 with k2 | k2 | k2
        · exact .inr (.inl k2)
        · exact .inl k2
        · exact .inr (.inr k2)
end Go.Proofs.YtedfhallhpkkhaaGreatDoor.X
