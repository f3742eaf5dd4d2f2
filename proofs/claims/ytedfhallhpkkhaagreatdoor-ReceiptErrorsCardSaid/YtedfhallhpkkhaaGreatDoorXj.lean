/- One operation of the model on the local heap is one operation of the model on the real one. Any program. -/
import Derived.Test.YtedfhallhpkkhaaGreatDoorXi
set_option linter.unusedVariables false
set_option linter.unusedSimpArgs false
namespace Go.Proofs.YtedfhallhpkkhaaGreatDoor.X
open Go
noncomputable section

theorem lconvert_ok {P : Program} {R : Map} {h h' : LH} {w : World} {src dst : TypeId} {x v : Value} (r : HRel R h w.heap) (hx : wfv R x) (hv : lconvert P h src dst x = some (v, h')) :
    OpOk P R h w (convert src dst (ren R x)) v h' := by
  unfold lconvert at hv
  split at hv
  · rename_i e s hs hd
    split at hv
    case h_2 => cases hv
    rename_i he
    simp only [Option.some.injEq] at hv
    have h1 : v = (lbytesOf h s).1 := by rw [hv]
    have h2 : h' = (lbytesOf h s).2 := by rw [hv]
    subst h1; subst h2
    obtain ⟨R', w', g1, g2, g3⟩ := stringToBytes_ok (P := P) r e s
    refine ⟨R', w', ?_, g2, g3⟩
    simp only [ren, convert, Sem.run_bind, run_underlying hs w, run_underlying hd w, run_underlying he w, Result.andThen_ok]
    exact g1
  · rename_i e a l c hs hd
    split at hv
    case h_2 => cases hv
    rename_i he
    simp only [Option.map_eq_some_iff, Prod.mk.injEq] at hv
    obtain ⟨u, hu, rfl, rfl⟩ := hv
    obtain ⟨g1, g2⟩ := lstring_ok (P := P) r hx hu
    refine ⟨R, w, ?_, g2, Goes.refl r⟩
    cases a <;> (simp only [ren] at g1; simp only [ren, convert, Sem.run_bind, run_underlying hs w, run_underlying hd w, run_underlying he w, Result.andThen_ok]; exact g1)
  · cases hv
theorem eqGuard_any {P : Program} {w : World} {op : BinOp} {t : TypeId} {x y : Operand} {a b : Value} (h1 : a ≠ .nilIface) (h2 : ∀ cs, a ≠ .agg cs) : (eqGuard op t x y a b).run P w = .ok () w := by
  unfold eqGuard
  cases a <;> first
    | exact absurd rfl h1
    | exact absurd rfl (h2 _)
    | (cases op <;> rfl)
theorem eqGuard_ok {P : Program} {R : Map} {w : World} {op : BinOp} {t : TypeId} {x y : Operand} {d : TypeDesc} {a b : Value} {z : Bool} (hv : lnilEq d a b = some z) :
    (eqGuard op t x y (ren R a) (ren R b)).run P w = .ok () w := by
  unfold lnilEq at hv
  split at hv
  all_goals (first | (simp only [Option.some.injEq] at hv; subst hv) | cases hv)
  all_goals exact eqGuard_any (fun h => by simp [ren] at h) (fun cs h => by simp [ren] at h)
theorem eqGuard_str {P : Program} {w : World} {op : BinOp} {t : TypeId} {x y : Operand} {a b : ByteArray} : (eqGuard op t x y (.string a) (.string b)).run P w = .ok () w :=
  eqGuard_any (fun h => by cases h) (fun cs h => by cases h)
theorem lbinOp_ok {P : Program} {R : Map} {w : World} {op : BinOp} {t : TypeId} {x y : Operand} {a b v : Value} (hv : lbinOp P op t a b = some v) :
    (do eqGuard op t x y (ren R a) (ren R b); binOp op t (ren R a) (ren R b) : Sem Value).run P w = .ok (ren R v) w ∧ wfv R v := by
  unfold lbinOp at hv
  split at hv
  · rename_i s u
    obtain ⟨g1, g2⟩ := lstrOp_ok (P := P) (R := R) (w := w) hv
    refine ⟨?_, g2⟩
    simp only [ren, Sem.run_bind, eqGuard_str, Result.andThen_ok]
    cases op <;> first | exact g1 | (simp only [lstrOp] at hv; cases hv)
  · split at hv
    case h_2 => cases hv
    rename_i d hu
    split at hv
    · rename_i z hz
      simp only [Option.some.injEq] at hv
      subst hv
      refine ⟨?_, trivial⟩
      rw [Sem.run_bind, eqGuard_ok hz, Result.andThen_ok]
      have he := lnilEq_ok (P := P) (R := R) (w := w) hu hz
      have : binOp .eql t (ren R a) (ren R b) = (do pure (.bool (← Op.equal t (ren R a) (ren R b)))) := by
        unfold lnilEq at hz
        split at hz
        all_goals (first | (simp only [Option.some.injEq] at hz; subst hz) | cases hz)
        all_goals first | rfl | (rename_i p; cases p <;> rfl) | (rename_i p q r; cases p <;> rfl) | skip
      rw [this]
      simp only [Sem.run_bind, he, Result.andThen_ok, Sem.run_pure, ren]
    · rename_i z hz
      simp only [Option.some.injEq] at hv
      subst hv
      refine ⟨?_, trivial⟩
      rw [Sem.run_bind, eqGuard_ok hz, Result.andThen_ok]
      have he := lnilEq_ok (P := P) (R := R) (w := w) hu hz
      have : binOp .neq t (ren R a) (ren R b) = (do pure (.bool (!(← Op.equal t (ren R a) (ren R b))))) := by
        unfold lnilEq at hz
        split at hz
        all_goals (first | (simp only [Option.some.injEq] at hz; subst hz) | cases hz)
        all_goals first | rfl | (rename_i p; cases p <;> rfl) | (rename_i p q r; cases p <;> rfl) | skip
      rw [this]
      simp only [Sem.run_bind, he, Result.andThen_ok, Sem.run_pure, ren]
    · cases hv
theorem lrange_ok {P : Program} {R : Map} {h h' : LH} {w : World} {t : TypeId} {x v : Value} (r : HRel R h w.heap) (hx : wfv R x) (hv : lrange P h t x = some (v, h')) : OpOk P R h w (Instr.range t (ren R x)) v h' := by
  unfold lrange at hv
  split at hv
  case h_2 => cases hv
  rename_i k e m hu
  split at hv
  case h_2 => cases hv
  rename_i es clk hm
  simp only [Option.some.injEq, Prod.mk.injEq] at hv
  obtain ⟨rfl, rfl⟩ := hv
  simp only [wfv] at hx
  have hext : R.ext (R.put h.next w.heap.size 0) := Map.put_ext (r.fresh _ (Nat.le_refl _))
  obtain ⟨R', w', g1, g2, g3⟩ := newObj_ok (P := P) (o := .obj (.mapIter (some m) clk #[] clk)) (x := .mapIter (some (R.b m)) clk #[] clk) r
    ⟨by simp [renObj, Map.ext_b hext hx], Map.ext_isSome hext hx⟩
  refine ⟨R', w', ?_, ⟨g2, rfl⟩, g3⟩
  simp only [Instr.range, ren, Sem.run_bind, run_underlying hu w, Result.andThen_ok, (getMap_ok (P := P) r hm).1, Sem.run_pure, g1]
theorem lnext_ok {P : Program} {R : Map} {h : LH} {w : World} {x v : Value} {b : Bool} {t : TypeId} (r : HRel R h w.heap) (hv : lnext h x b = some v) : (Instr.next (ren R x) b t).run P w = .ok (ren R v) w ∧ wfv R v := by
  unfold lnext at hv
  split at hv
  case h_2 => cases hv
  rename_i i
  split at hv
  case h_2 => cases hv
  rename_i m since last hi
  split at hv
  case h_2 => cases hv
  rename_i clk hm
  simp only [Option.some.injEq] at hv
  subst hv
  refine ⟨?_, trivial, trivial⟩
  obtain ⟨_, h1, h2⟩ := r.ok i _ hi
  have hg : (getObj (R.b i)).run P w = .ok (.mapIter (some (R.b m)) since #[] last) w := run_getObj_eq (by rw [h1]; rfl) (fun _ _ _ e => by cases e)
  have hgm := (getMap_ok (P := P) r hm).1
  simp only [List.map_nil] at hgm
  simp [Instr.next, ren, hg, hgm, choose, Sem.run, Question.forced, renA, renL]

set_option maxHeartbeats 1000000 in
theorem lop_ok {P : Program} {R : Map} {h h' : LH} {w : World} {ρ : Operand → Option Value} {ρr : Operand → Value} {o : Oper} {v : Value} (r : HRel R h w.heap) (hρ : Reads R ρ ρr) (hv : lop P ρ h o = some (v, h')) :
    OpRun P R h w (execOp ρr o) v h' := by
  have plainly : ∀ {u : Value} {k : LH}, (match lplain P ρ o with | some v => some (v, h) | none => none) = some (u, k) → OpRun P R h w (execOp ρr o) u k := by
    intro u k hk
    cases hp : lplain P ρ o with
    | none => rw [hp] at hk; cases hk
    | some x =>
      rw [hp] at hk
      simp only [Option.some.injEq, Prod.mk.injEq] at hk
      obtain ⟨rfl, rfl⟩ := hk
      exact OpRun.of_plain r hρ hp
  obtain ⟨dst, op, type, pos, after, guard⟩ := o
  unfold lop at hv
  cases op
  case move x =>
    simp only at hv
    split at hv
    case h_2 => cases hv
    rename_i u hu
    simp only [Option.some.injEq, Prod.mk.injEq] at hv
    obtain ⟨rfl, rfl⟩ := hv
    obtain ⟨h1, h2⟩ := hρ x u hu
    exact ⟨R, w, .inl (by simp only [execOp, h1]; rfl), h2, Goes.refl r⟩
  case assign x =>
    simp only at hv
    split at hv
    case h_2 => cases hv
    rename_i u hu
    simp only [Option.some.injEq, Prod.mk.injEq] at hv
    obtain ⟨rfl, rfl⟩ := hv
    obtain ⟨h1, h2⟩ := hρ x u hu
    exact ⟨R, w, .inl (by simp only [execOp, h1]; rfl), h2, Goes.refl r⟩
  case pick c a b =>
    simp only at hv
    split at hv
    case h_2 => cases hv
    rename_i b' va vb hc ha hb
    simp only [Option.some.injEq, Prod.mk.injEq] at hv
    obtain ⟨rfl, rfl⟩ := hv
    have hc' := (hρ c _ hc).1
    obtain ⟨h1, h2⟩ := hρ a _ ha
    obtain ⟨h3, h4⟩ := hρ b _ hb
    refine ⟨R, w, .inl ?_, by cases b' <;> simp [h2, h4], Goes.refl r⟩
    simp only [execOp, hc', ren, Sem.run_bind, asBool, Sem.run_pure, Result.andThen_ok, h1, h3]
    cases b' <;> rfl
  case alloc t =>
    exact OpRun.of_ok (lalloc_ok r hv _)
  case box t x =>
    simp only at hv
    split at hv
    case h_2 => cases hv
    rename_i u hu
    simp only [Option.some.injEq] at hv
    obtain ⟨h1, h2⟩ := hρ x u hu
    have e1 : v = (lnew h u.cells.toList).1 := by rw [hv]
    have e2 : h' = (lnew h u.cells.toList).2 := by rw [hv]
    subst e1; subst e2
    simp only [execOp, h1]
    exact OpRun.of_ok (lbox_ok r h2)
  case build t parts =>
    simp only at hv
    split at hv
    case h_2 => cases hv
    rename_i vs hvs
    split at hv
    case h_2 => cases hv
    rename_i u hu
    simp only [Option.some.injEq, Prod.mk.injEq] at hv
    obtain ⟨rfl, rfl⟩ := hv
    obtain ⟨h1, h2⟩ := evalPartsA_ok hρ hvs
    simp only [execOp, h1]
    exact OpRun.of_pure r (lbuild_ok h2 hu)
  case buildSlice t len parts =>
    simp only at hv
    split at hv
    case h_2 => cases hv
    rename_i vs hvs
    obtain ⟨h1, h2⟩ := evalPartsA_ok hρ hvs
    simp only [execOp, h1]
    exact OpRun.of_ok (lbuildSlice_ok r h2 hv)
  case load t x =>
    simp only at hv
    split at hv
    case h_2 => cases hv
    rename_i a ha
    split at hv
    case h_2 => cases hv
    rename_i u hu
    simp only [Option.some.injEq, Prod.mk.injEq] at hv
    obtain ⟨rfl, rfl⟩ := hv
    obtain ⟨h1, h2⟩ := hρ x a ha
    simp only [execOp, h1]
    exact OpRun.of_pure r (lload_ok r h2 hu)
  case store t x y =>
    simp only at hv
    split at hv
    case h_2 => cases hv
    rename_i a b ha hb
    split at hv
    case h_2 => cases hv
    rename_i k hk
    simp only [Option.some.injEq, Prod.mk.injEq] at hv
    obtain ⟨rfl, rfl⟩ := hv
    obtain ⟨h1, h2⟩ := hρ x a ha
    obtain ⟨h3, h4⟩ := hρ y b hb
    simp only [execOp, h1, h3]
    exact OpRun.of_unit (lstore_ok r h2 h4 hk)
  case nilCheck x =>
    simp only at hv
    split at hv
    case h_2 => cases hv
    rename_i a ha
    simp only [Option.some.injEq, Prod.mk.injEq] at hv
    obtain ⟨rfl, rfl⟩ := hv
    obtain ⟨h1, h2⟩ := hρ x _ ha
    exact ⟨R, w, .inl (by simp only [execOp, h1, ren]; rfl), h2, Goes.refl r⟩
  case binOp op t x y yt =>
    simp only at hv
    split at hv
    case h_2 => cases hv
    rename_i a b ha hb
    split at hv
    · rename_i u hu
      simp only [Option.some.injEq, Prod.mk.injEq] at hv
      obtain ⟨rfl, rfl⟩ := hv
      obtain ⟨h1, h2⟩ := hρ x a ha
      obtain ⟨h3, h4⟩ := hρ y b hb
      simp only [execOp, h1, h3]
      exact OpRun.of_pure r (lbinOp_ok hu)
    · exact plainly hv
  case convert src dst x =>
    simp only at hv
    split at hv
    case h_2 => cases hv
    rename_i a ha
    split at hv
    · rename_i u hu
      simp only [Option.some.injEq] at hv
      subst hv
      obtain ⟨h1, h2⟩ := hρ x a ha
      simp only [execOp, h1]
      exact OpRun.of_ok (lconvert_ok r h2 hu)
    · exact plainly hv
  case makeFunc fn first captured =>
    simp only at hv
    split at hv
    case h_2 => cases hv
    rename_i fs cs hf hc
    split at hv
    case isFalse => cases hv
    rename_i hp
    simp only [Option.some.injEq, Prod.mk.injEq] at hv
    obtain ⟨rfl, rfl⟩ := hv
    obtain ⟨h1, h2⟩ := evalsA_ok hρ hf
    obtain ⟨h3, h4⟩ := evalsA_ok hρ hc
    obtain ⟨h5, h6⟩ := plainFn_ren (R := R) hp
    simp only [execOp, h1, h3]
    exact OpRun.of_pure r ⟨by simp only [Instr.makeFunc, Sem.run_pure, ren, h5], h6, h2, h4⟩
  case makeMap t x =>
    cases x with
    | none =>
      simp only [Option.some.injEq] at hv
      have e1 : v = (lmakeMap h).1 := by rw [hv]
      have e2 : h' = (lmakeMap h).2 := by rw [hv]
      subst e1; subst e2
      exact OpRun.of_ok (lmakeMap_ok r t)
    | some x =>
      simp only at hv
      split at hv
      case h_2 => cases hv
      rename_i a ha
      obtain ⟨h1, h2⟩ := hρ x a ha
      simp only [execOp, Option.map_some, h1]
      exact OpRun.of_ok (lmakeMapHint_ok r hv)
  case makeSlice t x y =>
    simp only at hv
    split at hv
    case h_2 => cases hv
    rename_i a b ha hb
    simp only [execOp, (hρ x a ha).1, (hρ y b hb).1]
    exact OpRun.of_ok (lmakeSlice_ok r hv)
  case slice t x lo hi mx =>
    cases mx with
    | some m => exact plainly hv
    | none =>
      simp only at hv
      split at hv
      case h_2 => cases hv
      rename_i a l u ha hl hu
      split at hv
      · rename_i z hz
        simp only [Option.some.injEq, Prod.mk.injEq] at hv
        obtain ⟨rfl, rfl⟩ := hv
        obtain ⟨h1, h2⟩ := hρ x a ha
        have one : ∀ {q : Option Operand} {vs : List Value}, evals ρ q.toList = some vs → q.map ρr = vs.head?.map (ren R) := by
          intro q vs hq
          have h3 := (evals_ok hρ hq).1
          cases q with
          | none => simp only [Option.toList, List.map_nil] at h3; cases vs with
            | nil => rfl
            | cons => simp at h3
          | some q => simp only [Option.toList, List.map_cons, List.map_nil] at h3; cases vs with
            | nil => simp at h3
            | cons s t => simp at h3; simp [h3.1]
        simp only [execOp, h1, one hl, one hu, Option.map_none]
        exact OpRun.of_pure r (lslice_ok r h2 hz)
      · exact plainly hv
  case fieldAddr t x f =>
    simp only at hv
    split at hv
    case h_2 => cases hv
    rename_i a ha
    split at hv
    case h_2 => cases hv
    rename_i u hu
    simp only [Option.some.injEq, Prod.mk.injEq] at hv
    obtain ⟨rfl, rfl⟩ := hv
    obtain ⟨h1, h2⟩ := hρ x a ha
    simp only [execOp, h1]
    exact OpRun.of_pure r (lfieldAddr_ok h2 hu)
  case field t x f =>
    simp only at hv
    split at hv
    case h_2 => cases hv
    rename_i a ha
    split at hv
    case h_2 => cases hv
    rename_i u hu
    simp only [Option.some.injEq, Prod.mk.injEq] at hv
    obtain ⟨rfl, rfl⟩ := hv
    obtain ⟨h1, h2⟩ := hρ x a ha
    simp only [execOp, h1]
    exact OpRun.of_pure r (lfield_ok h2 hu)
  case indexAddr t x y =>
    simp only at hv
    split at hv
    case h_2 => cases hv
    rename_i a b ha hb
    split at hv
    case h_2 => cases hv
    rename_i u hu
    simp only [Option.some.injEq, Prod.mk.injEq] at hv
    obtain ⟨rfl, rfl⟩ := hv
    obtain ⟨h1, h2⟩ := hρ x a ha
    simp only [execOp, h1, (hρ y b hb).1]
    exact OpRun.of_pure r (lindexAddr_ok h2 hu)
  case index t x y =>
    simp only at hv
    split at hv
    case h_2 => cases hv
    rename_i a b ha hb
    split at hv
    case h_2 => cases hv
    rename_i u hu
    simp only [Option.some.injEq, Prod.mk.injEq] at hv
    obtain ⟨rfl, rfl⟩ := hv
    obtain ⟨h1, h2⟩ := hρ x a ha
    simp only [execOp, h1, (hρ y b hb).1]
    exact OpRun.of_pure r (lindex_ok h2 hu)
  case lookup t x y ok =>
    simp only at hv
    split at hv
    case h_2 => cases hv
    rename_i a b ha hb
    split at hv
    case h_2 => cases hv
    rename_i u hu
    simp only [Option.some.injEq, Prod.mk.injEq] at hv
    obtain ⟨rfl, rfl⟩ := hv
    simp only [execOp, (hρ x a ha).1, (hρ y b hb).1]
    exact OpRun.of_pure r (llookup_ok r hu)
  case mapUpdate t m k x =>
    simp only at hv
    split at hv
    case h_2 => cases hv
    rename_i vm vk vx hm hk hx
    split at hv
    case h_2 => cases hv
    rename_i g hg
    simp only [Option.some.injEq, Prod.mk.injEq] at hv
    obtain ⟨rfl, rfl⟩ := hv
    obtain ⟨h1, h2⟩ := hρ x vx hx
    simp only [execOp, (hρ m vm hm).1, (hρ k vk hk).1, h1]
    exact OpRun.of_unit (lmapUpdate_ok r h2 hg)
  case insert t m k x =>
    simp only at hv
    split at hv
    case h_2 => cases hv
    rename_i vm vk vx hm hk hx
    split at hv
    case h_2 => cases hv
    rename_i g hg
    simp only [Option.some.injEq, Prod.mk.injEq] at hv
    obtain ⟨rfl, rfl⟩ := hv
    obtain ⟨h1, h2⟩ := hρ x vx hx
    simp only [execOp, (hρ m vm hm).1, (hρ k vk hk).1, h1]
    exact OpRun.of_unit (lmapUpdate_ok r h2 hg)
  case mapEntry t m k =>
    simp only at hv
    split at hv
    case h_2 => cases hv
    rename_i vm vk hm hk
    simp only [execOp, (hρ m vm hm).1, (hρ k vk hk).1]
    exact OpRun.of_ok (lmapEntry_ok r hv)
  case entryStore t m s x =>
    simp only at hv
    split at hv
    case h_2 => cases hv
    rename_i vm vs vx hm hs hx
    split at hv
    case h_2 => cases hv
    rename_i g hg
    simp only [Option.some.injEq, Prod.mk.injEq] at hv
    obtain ⟨rfl, rfl⟩ := hv
    obtain ⟨h1, h2⟩ := hρ x vx hx
    simp only [execOp, (hρ m vm hm).1, (hρ s vs hs).1, h1]
    exact OpRun.of_unit (lentryStore_ok r h2 hg)
  case range t x =>
    simp only at hv
    split at hv
    case h_2 => cases hv
    rename_i a ha
    obtain ⟨h1, h2⟩ := hρ x a ha
    simp only [execOp, h1]
    exact OpRun.of_ok (lrange_ok r h2 hv)
  case next x b =>
    simp only at hv
    split at hv
    case h_2 => cases hv
    rename_i a ha
    split at hv
    case h_2 => cases hv
    rename_i u hu
    simp only [Option.some.injEq, Prod.mk.injEq] at hv
    obtain ⟨rfl, rfl⟩ := hv
    simp only [execOp, (hρ x a ha).1]
    exact OpRun.of_pure r (lnext_ok r hu)
  case extract x i =>
    simp only at hv
    split at hv
    case h_2 => cases hv
    rename_i a ha
    split at hv
    case h_2 => cases hv
    rename_i u hu
    simp only [Option.some.injEq, Prod.mk.injEq] at hv
    obtain ⟨rfl, rfl⟩ := hv
    obtain ⟨h1, h2⟩ := hρ x a ha
    simp only [execOp, h1]
    exact OpRun.of_pure r (lextract_ok h2 hu)
  case call c =>
    obtain ⟨callee, args, argTypes⟩ := c
    cases callee with
    | value f => cases hv
    | invoke f m => cases hv
    | builtin b =>
      simp only at hv
      split at hv
      case h_2 => cases hv
      rename_i vs hvs
      split at hv
      · rename_i u hu
        simp only [Option.some.injEq] at hv
        subst hv
        obtain ⟨h1, h2⟩ := evalsA_ok hρ hvs
        unfold lcallB at hu
        split at hu
        · simp only [execOp, resolve, h1, Sem.run_bind]
          obtain ⟨R', w', g1, g2, g3⟩ := lappend_ok (type := type) r h2 hu
          refine ⟨R', w', .inl ?_, g2, g3⟩
          simp only [execOp, resolve, h1, invoke, builtin, Sem.run_bind, Sem.run_pure, Result.andThen_ok, g1]
        · split at hu
          case h_2 => cases hu
          rename_i t x ht
          simp only [Option.map_eq_some_iff, Prod.mk.injEq] at hu
          obtain ⟨z, hz, rfl, rfl⟩ := hu
          obtain ⟨g1, g2⟩ := llen_ok (P := P) (type := type) (args := [x].toArray) r ht rfl hz
          refine ⟨R, w, .inl ?_, g2, Goes.refl r⟩
          simp only [execOp, resolve, h1, invoke, builtin, Sem.run_bind, Sem.run_pure, Result.andThen_ok, g1]
        · cases hu
      · exact plainly hv
  all_goals exact plainly hv
end
end Go.Proofs.YtedfhallhpkkhaaGreatDoor.X
