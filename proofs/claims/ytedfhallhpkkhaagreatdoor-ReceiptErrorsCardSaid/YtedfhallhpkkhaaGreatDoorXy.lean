/- Regions that draw: the invariant's slots, and one operation in any order. Any program. -/
import Derived.Test.YtedfhallhpkkhaaGreatDoorXx
set_option linter.unusedVariables false
set_option linter.unusedSimpArgs false
namespace Go.Proofs.YtedfhallhpkkhaaGreatDoor.X
open Go Go.RowKit

def Slot (U : Map) (a : Act) (t : Tmp) (v : Value) : Prop := a.tmps[t]? = some (ren U v) ∧ wfv U v
theorem Slot.ext {U U' : Map} (h : U.ext U') {a : Act} {t : Tmp} {v : Value} (s : Slot U a t v) : Slot U' a t v := by
  obtain ⟨h1, h2⟩ := s
  obtain ⟨h3, h4⟩ := ren_ext h v h2
  exact ⟨by rw [h1, h3], h4⟩
structure SInv (ops : Array Oper) (all : List Nat) (la0 laF : LAct) (defs : List Deferred) (D : Nat → Prop) (U : Map) (a : Act) : Prop where
  size : a.tmps.size = laF.n
  defers : a.defers = defs
  fin : ∀ t, t < laF.n → (∀ j ∈ all, dstOf ops j = some t → D j) → Slot U a t ((laF.tmps.get t).getD undef)
  ini : ∀ t, t < laF.n → ∀ j ∈ all, dstOf ops j = some t → ¬ D j → Slot U a t ((la0.tmps.get t).getD undef)
section
variable {ops : Array Oper} {all : List Nat} {la0 laF : LAct} {defs : List Deferred} {D : Nat → Prop} {U U' : Map} {a : Act}
theorem SInv.ext (h : U.ext U') (s : SInv ops all la0 laF defs D U a) : SInv ops all la0 laF defs D U' a :=
  ⟨s.size, s.defers, fun t ht hd => (s.fin t ht hd).ext h, fun t ht j hj hjt hd => (s.ini t ht j hj hjt hd).ext h⟩
theorem SInv.put {i : Nat} {v : Value} (s : SInv ops all la0 laF defs D U a) (hi : i ∈ all) (hu : ∀ j ∈ all, ∀ t, dstOf ops i = some t → dstOf ops j = some t → j = i) (hv : ∀ t, dstOf ops i = some t → laF.tmps.get t = some v) (hw : wfv U v) :
    SInv ops all la0 laF defs (fun j => D j ∨ j = i) U (a.put (dstOf ops i) (ren U v)) := by
  cases hd : dstOf ops i with
  | none =>
    refine ⟨s.size, s.defers, fun t ht h => s.fin t ht fun j hj hjt => ?_, fun t ht j hj hjt h => s.ini t ht j hj hjt fun hD => h (.inl hD)⟩
    rcases h j hj hjt with h1 | h1
    · exact h1
    · subst h1; rw [hd] at hjt; cases hjt
  | some d =>
    refine ⟨by simp [Act.put, s.size], s.defers, fun t ht h => ?_, fun t ht j hj hjt h => ?_⟩
    · by_cases he : t = d
      · subst he
        rw [hv t hd]
        refine ⟨?_, hw⟩
        simp only [Act.put, Option.getD_some]
        have h1 : t < a.tmps.size := by rw [s.size]; exact ht
        rw [Array.getElem?_setIfInBounds_self_of_lt h1]
      · obtain ⟨h1, h2⟩ := s.fin t ht fun j hj hjt => by
          rcases h j hj hjt with h1 | h1
          · exact h1
          · subst h1
            rw [hd] at hjt
            simp only [Option.some.injEq] at hjt
            exact absurd hjt.symm he
        refine ⟨?_, h2⟩
        simp only [Act.put]
        rw [Array.getElem?_setIfInBounds_ne (fun e => he e.symm)]
        exact h1
    · by_cases he : t = d
      · subst he
        exact absurd (.inr (hu j hj t hd hjt)) h
      · obtain ⟨h1, h2⟩ := s.ini t ht j hj hjt fun hD => h (.inl hD)
        refine ⟨?_, h2⟩
        simp only [Act.put]
        rw [Array.getElem?_setIfInBounds_ne (fun e => he e.symm)]
        exact h1

/-- What is known of an entry. -/
structure EntOk (ops : Array Oper) (M all : List Nat) (la0 laF : LAct) (e : Ent) : Prop where
  n : e.2.1.n = laF.n
  marks : e.2.1.marks = []
  none : ∀ t, t ∉ looksOf ops e.1 → e.2.1.tmps.get t = none
  look : LookOk ops M all la0 laF e
  dst : ∀ t, dstOf ops e.1 = some t → laF.tmps.get t = some e.2.2
  domF : ∀ t v, laF.tmps.get t = some v → t < laF.n
  dom0 : ∀ t v, la0.tmps.get t = some v → t < laF.n
theorem SInv.agree {M : List Nat} {e : Ent} (s : SInv ops all la0 laF defs D U a) (k : EntOk ops M all la0 laF e) (hnd : ¬ D e.1) (hm : ∀ j, Nat.testBit (M.getD e.1 0) j = true → D j)
    (hc : ∀ j, D j → ∀ i, Nat.testBit (M.getD j 0) i = true → D i) {t : Tmp} (ht : t ∈ looksOf ops e.1) (hlt : t < laF.n) : Slot U a t ((e.2.1.tmps.get t).getD undef) := by
  rcases k.look t ht with ⟨h1, h2⟩ | ⟨h1, j, hj, hjt, h2⟩
  · rw [h1]
    exact s.fin t hlt fun j hj hjt => hm j (h2 j hj hjt)
  · rw [h1]
    refine s.ini t hlt j hj hjt fun hD => hnd ?_
    rcases h2 with rfl | h2
    · exact hD
    · exact hc j hD _ h2

noncomputable def realOf (U : Map) (la : LAct) (a : Act) : Act := { a with tmps := ((List.range la.n).map fun k => ren U ((la.tmps.get k).getD undef)).toArray, defers := [] }
theorem realOf_get (U : Map) (la : LAct) (a : Act) (k : Nat) : (realOf U la a).tmps[k]? = if k < la.n then some (ren U ((la.tmps.get k).getD undef)) else none := by
  simp only [realOf, List.getElem?_toArray, List.getElem?_map]
  by_cases h : k < la.n
  · rw [if_pos h, List.getElem?_range h]; rfl
  · rw [if_neg h, List.getElem?_eq_none (by simpa using h)]; rfl
theorem realOf_ext {U U' : Map} {la : LAct} (h : U.ext U') (hw : ∀ k v, la.tmps.get k = some v → wfv U v) (a : Act) : realOf U' la a = realOf U la a := by
  unfold realOf
  congr 2
  apply List.map_congr_left
  intro k _
  cases hk : la.tmps.get k with
  | none => exact (ren_ext h undef (wf_undef U)).1
  | some v => exact (ren_ext h v (hw k v hk)).1
theorem realOf_rel {U : Map} {la : LAct} {a : Act} (hm : la.marks = []) (hw : ∀ k v, la.tmps.get k = some v → k < la.n ∧ wfv U v) : ARel U la (realOf U la a) := by
  refine ⟨⟨by simp [realOf], fun k hk => by rw [realOf_get, if_pos hk], hw⟩, by rw [hm]; rfl, fun i hi => by rw [hm] at hi; cases hi⟩
variable {M : List Nat} {e : Ent}
theorem EntOk.get (k : EntOk ops M all la0 laF e) {t : Tmp} {v : Value} (h : e.2.1.tmps.get t = some v) : t ∈ looksOf ops e.1 ∧ t < laF.n := by
  by_cases ht : t ∈ looksOf ops e.1
  · refine ⟨ht, ?_⟩
    rcases k.look t ht with ⟨h1, _⟩ | ⟨h1, _⟩
    · rw [h1] at h; exact k.domF t v h
    · rw [h1] at h; exact k.dom0 t v h
  · rw [k.none t ht] at h; cases h
theorem SInv.real (s : SInv ops all la0 laF defs D U a) (k : EntOk ops M all la0 laF e) (hnd : ¬ D e.1) (hm : ∀ j, Nat.testBit (M.getD e.1 0) j = true → D j)
    (hc : ∀ j, D j → ∀ i, Nat.testBit (M.getD j 0) i = true → D i) : ARel U e.2.1 (realOf U e.2.1 a) ∧ ∀ t ∈ looksOf ops e.1, a.tmps[t]? = (realOf U e.2.1 a).tmps[t]? := by
  refine ⟨realOf_rel k.marks fun t v hv => ?_, fun t ht => ?_⟩
  · obtain ⟨h1, h2⟩ := k.get hv
    have := (s.agree k hnd hm hc h1 h2).2
    rw [hv] at this
    exact ⟨by rw [k.n]; exact h2, this⟩
  · rw [realOf_get, k.n]
    by_cases hlt : t < laF.n
    · rw [if_pos hlt]; exact (s.agree k hnd hm hc ht hlt).1
    · rw [if_neg hlt, Array.getElem?_eq_none (by rw [s.size]; exact Nat.le_of_not_lt hlt)]
theorem looks_op {o : Oper} {i : Nat} (ho : ops[i]? = some o) {t : Tmp} (ht : .tmp t ∈ o.op.operands) : t ∈ looksOf ops i := by
  simp only [looksOf, ho, Oper.looksAt]
  exact List.mem_append_left _ (List.mem_filterMap.2 ⟨.tmp t, by simpa using ht, rfl⟩)
theorem eval_real {o : Oper} {i : Nat} {b : Act} (ho : ops[i]? = some o) (hb : ∀ t ∈ looksOf ops i, a.tmps[t]? = b.tmps[t]?) : ∀ x ∈ o.op.operands, a.eval x = b.eval x := by
  intro x hx
  cases x with
  | tmp t =>
    have := hb t (looks_op ho hx)
    simp only [Act.eval, Array.getD_eq_getD_getElem?, this]
  | _ => rfl
theorem sem_real {o : Oper} {i : Nat} {b : Act} (ho : ops[i]? = some o) (hb : ∀ t ∈ looksOf ops i, a.tmps[t]? = b.tmps[t]?) (hs : isSelect o.op = false) (hd : isDefer o.op = false) (rr : Option Nat) : o.semAt rr a.eval = o.semAt rr b.eval := by
  have hd' : ∀ c, o.op ≠ .defer c := fun c h => by rw [h] at hd; cases hd
  rw [Oper.semAt_eq rr _ o hd', Oper.semAt_eq rr _ o hd']
  exact execOp_congr o (fun cs b h => by rw [h] at hs; cases hs) (eval_real ho hb)
theorem wanted_real {o : Oper} {i : Nat} {b : Act} (ho : ops[i]? = some o) (hb : ∀ t ∈ looksOf ops i, a.tmps[t]? = b.tmps[t]?) : Region.wanted o (yielded ops a.tmps) = Region.wanted o (yielded ops b.tmps) := by
  unfold Region.wanted
  cases hg : o.guard with
  | none => rfl
  | some g =>
    obtain ⟨j, want⟩ := g
    simp only
    congr 1
    unfold yielded
    cases hd : (ops[j]?).bind (·.dst) with
    | none => rfl
    | some t =>
      simp only [Option.bind_some]
      rw [hb t ?_]
      simp only [looksOf, ho, Oper.looksAt, hg]
      exact List.mem_append_right _ (by simp [hd])
end

theorem Outc.mono {F : Fence} {P : Program} {s : Sem Next} {w : World} {K K' : Value → World → Prop} (h : Outc F P s w K) (hk : ∀ v w', K v w' → K' v w') : Outc F P s w K' := by
  unfold Outc at h ⊢
  generalize s.run P w = r at h ⊢
  cases r with
  | halt x w' => exact h
  | ok n w' =>
    cases n <;> first
      | exact hk _ _ h
      | exact CallsIn.mono h (fun e w'' ⟨v, he, hv⟩ => ⟨v, he, hk _ _ hv⟩)
      | exact RoundIn.mono h (fun e w'' ⟨v, he, hv⟩ => ⟨v, he, hk _ _ hv⟩)
      | exact h
theorem lplain_same {P : Program} {ρ : Operand → Option Value} {H h : LH} {o : Oper} {v : Value} (hv : (match lplain P ρ o with | some v => some (v, H) | none => none) = some (v, h)) : h = H := by
  split at hv
  · simp only [Option.some.injEq, Prod.mk.injEq] at hv; exact hv.2.symm
  · cases hv
theorem lbytes_next (h : LH) (s : ByteArray) : (lbytesOf h s).2.next ≠ h.next := by
  simp [lbytesOf, lnew, LH.add]
theorem read_same {P : Program} {ρ : Operand → Option Value} {H h : LH} {o : Oper} {v : Value} (hr : isRead o.op = true) (hv : lop P ρ H o = some (v, h)) (hn : h.next = H.next) : h = H := by
  unfold lop at hv
  cases hop : o.op <;> rw [hop] at hv hr <;> try (cases hr; done)
  case load t x =>
    simp only at hv
    split at hv
    case h_2 => cases hv
    split at hv
    case h_2 => cases hv
    simp only [Option.some.injEq, Prod.mk.injEq] at hv
    exact hv.2.symm
  case convert src dst x =>
    simp only at hv
    split at hv
    case h_2 => cases hv
    split at hv
    · rename_i r hr'
      simp only [Option.some.injEq] at hv
      subst hv
      unfold lconvert at hr'
      split at hr'
      · split at hr'
        · simp only [Option.some.injEq] at hr'
          exact absurd (by rw [hr']; exact hn) (lbytes_next H _)
        · cases hr'
      · split at hr'
        · simp only [Option.map_eq_some_iff] at hr'
          obtain ⟨_, _, hr'⟩ := hr'
          simp only [Prod.mk.injEq] at hr'
          exact hr'.2.symm
        · cases hr'
      · cases hr'
    · exact lplain_same hv
  case slice t x lo hi mx =>
    cases mx with
    | none =>
      simp only at hv
      split at hv
      case h_2 => cases hv
      split at hv
      · simp only [Option.some.injEq, Prod.mk.injEq] at hv; exact hv.2.symm
      · exact lplain_same hv
    | some m => exact lplain_same hv
  case lookup t x y ok =>
    simp only at hv
    split at hv
    case h_2 => cases hv
    split at hv
    case h_2 => cases hv
    simp only [Option.some.injEq, Prod.mk.injEq] at hv
    exact hv.2.symm
  case call c =>
    simp only at hv
    simp only [isRead] at hr
    split at hr
    case h_2 => cases hr
    rename_i hc
    rw [hc] at hv
    simp only at hv
    split at hv
    case h_2 => cases hv
    split at hv
    · rename_i r hr'
      simp only [Option.some.injEq] at hv
      subst hv
      simp only [lcallB] at hr'
      split at hr'
      · simp only [Option.map_eq_some_iff, Prod.mk.injEq] at hr'
        obtain ⟨_, _, _, hr'⟩ := hr'
        exact hr'.symm
      · cases hr'
    · exact lplain_same hv
end Go.Proofs.YtedfhallhpkkhaaGreatDoor.X
