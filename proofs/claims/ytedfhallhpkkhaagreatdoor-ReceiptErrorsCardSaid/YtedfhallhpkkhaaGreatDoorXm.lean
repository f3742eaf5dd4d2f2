/- What the local run says is what the model does: regions in the text's order, results, marks. Any program. -/
import Derived.Test.YtedfhallhpkkhaaGreatDoorXl
set_option linter.unusedVariables false
set_option linter.unusedSimpArgs false
namespace Go.Proofs.YtedfhallhpkkhaaGreatDoor.X
open Go Go.RowKit

section
variable {P : Program} {c : Ctx} {orc : Orc} {ih : Task → Option Res}
theorem lcallV_ok (hs : SoundAll P c ih) (ho : OrcOk P c orc) {R : Map} {h h' : LH} {w : World} {fv : Value} {args : List Value} {v : Value} (r : HRel R h w.heap) (hf : wfv R fv) (hw : wfL R args) (b : Base c R h w)
    (hv : lcallV P orc ih h fv args = some (v, h')) (rr : Option Nat) :
    Outc (fen rr) P (do let d ← Deferred.ofValue (ren R fv) (args.map (ren R)).toArray; invoke d.target d.args) w (fun vr w' => ∃ R', vr = ren R' v ∧ wfv R' v ∧ Goes R h w R' h' w') := by
  unfold lcallV at hv
  split at hv
  · rename_i f fs cs
    simp only [wfv] at hf
    have hall : wfL R (fs.toList ++ args ++ cs.toList) := wfL_append.2 ⟨wfL_append.2 ⟨wfA_toList.1 hf.2.1, hw⟩, wfA_toList.1 hf.2.2⟩
    have := lfun_ok hs ho r hall b hv rr
    have hargs : ((fs.toList ++ args ++ cs.toList).map (ren R)).toArray = (renA R fs ++ (args.map (ren R)).toArray) ++ renA R cs := by
      rw [renA_eq, renA_eq]
      apply Array.ext'
      simp
    rw [hargs] at this
    exact this
  · rename_i l fs cs
    simp only [wfv, wfFn] at hf
    split at hv
    · rename_i u k hk
      simp only [Option.some.injEq, Prod.mk.injEq] at hv
      obtain ⟨rfl, rfl⟩ := hv
      have hall : wfL R (fs.toList ++ args) := wfL_append.2 ⟨wfA_toList.1 hf.2.1, hw⟩
      obtain ⟨f, tmps, assign, body, hy, hr⟩ := hs _ _ hk R w r hall b hf.1
      have hargs : ((fs.toList ++ args).map (ren R)).toArray = renA R fs ++ (args.map (ren R)).toArray := by
        rw [renA_eq]
        apply Array.ext'
        simp
      rw [hargs] at hy
      have hrun : (do let d ← Deferred.ofValue (ren R (.func (.yield l) fs cs)) (args.map (ren R)).toArray; invoke d.target d.args : Sem Next).run P w = .ok (.round (R.b l) f tmps assign body) w := hy
      unfold Outc
      rw [hrun]
      refine RoundIn.mono (F := fen rr) hr ?_
      rintro e w' ⟨R', rfl, h2, h3⟩
      exact ⟨_, rfl, R', rfl, h2, h3⟩
    · cases hv
  · cases hv
theorem lexec_ok (hs : SoundAll P c ih) (ho : OrcOk P c orc) {R : Map} {h h' : LH} {w : World} {la : LAct} {a : Act} {o : Oper} {v : Value} (r : HRel R h w.heap) (ra : ARel R la a) (b : Base c R h w)
    (hv : lexec P orc ih la h o = some (v, h')) (rr : Option Nat) : Outc (fen rr) P (o.semAt rr a.eval) w (fun vr w' => ∃ R', vr = ren R' v ∧ wfv R' v ∧ Goes R h w R' h' w') := by
  unfold lexec at hv
  split at hv
  case isTrue => cases hv
  rename_i hd
  rw [Oper.semAt_eq rr a.eval o (fun k hk => by rw [hk] at hd; exact hd rfl)]
  have hρ := lev_ok r.glob.1 ra
  split at hv
  · rename_i fx args ts hop
    split at hv
    case h_2 => cases hv
    rename_i fv vs hf hvs
    obtain ⟨h1, h2⟩ := hρ fx fv hf
    obtain ⟨h3, h4⟩ := evals_ok hρ hvs
    have := lcallV_ok hs ho r h2 h4 b hv rr
    have hx : execOp a.eval o = (do let d ← Deferred.ofValue (ren R fv) (vs.map (ren R)).toArray; invoke d.target d.args) := by
      have h5 : args.map a.eval = (vs.map (ren R)).toArray := by
        apply Array.ext'
        simp [← h3]
      simp only [execOp, hop, resolve, h1, h5]
    rw [hx]
    exact this
  · exact Outc.of_run (lop_ok r hρ hv)

theorem lops_ok (hs : SoundAll P c ih) (ho : OrcOk P c orc) {ops : Array Oper} {rr : Option Nat} {Q : Exit → Act → World → Prop} : ∀ (l : List Nat) {R : Map} {h h' : LH} {w : World} {la la' : LAct} {a : Act}, HRel R h w.heap → ARel R la a → Base c R h w →
    lops P orc ih ops l la h = some (la', h') → (∀ R' a' w', Goes R h w R' h' w' → ARel R' la' a' → Q .normal a' w') → wpOpsIn (fen rr) 0 P ops Q l a w
  | [], R, h, h', w, la, la', a, r, ra, b, hv, hq => by
    simp only [lops, Option.some.injEq, Prod.mk.injEq] at hv
    obtain ⟨rfl, rfl⟩ := hv
    exact hq R a w (Goes.refl r) ra
  | i :: l, R, h, h', w, la, la', a, r, ra, b, hv, hq => by
    simp only [lops] at hv
    simp only [wpOpsIn]
    split at hv
    case h_2 => cases hv
    rename_i o hoi
    simp only [hoi]
    split at hv
    case h_2 => cases hv
    rename_i v k hk
    split at hv
    case h_2 => cases hv
    rename_i la1 hp
    rw [lwanted_ok ra]
    by_cases hwant : lwanted ops la o = true
    · rw [if_pos hwant] at hk ⊢
      have hout := lexec_ok hs ho r ra b hk rr
      refine ⟨fun f _ => trivial, hout.upon ?_⟩
      rintro vr w1 ⟨R1, rfl, hwf, hg⟩
      have ra1 := put_ok (ra.ext hg.ext) hwf hp
      exact lops_ok hs ho l hg.rel ra1 (b.goes hg) hv (fun R' a' w' hg' ra' => hq R' a' w' (hg.trans hg') ra')
    · rw [if_neg hwant] at hk
      rw [if_neg hwant]
      simp only [Option.some.injEq, Prod.mk.injEq] at hk
      obtain ⟨rfl, rfl⟩ := hk
      refine ⟨fun f _ => trivial, ?_⟩
      have ra1 := put_ok ra (wf_undef R) hp
      exact lops_ok hs ho l r ra1 b hv hq

theorem lresults_ok {R : Map} {h : LH} {w : World} {la : LAct} {a : Act} (r : HRel R h w.heap) (ra : ARel R la a) {f : ResultVar → Sem Value} (hf1 : ∀ t, f (.tmp t) = pure (a.tmps.getD t undef))
    (hf2 : ∀ q t, f (.cell q t) = (do loadVar t (← asAddr (a.tmps.getD q undef)))) : ∀ {l : List ResultVar} {vs : List Value}, lresults P la h l = some vs →
    (l.mapM f).run P w = .ok (vs.map (ren R)) w ∧ wfL R vs
  | [], vs, hv => by simp only [lresults, Option.some.injEq] at hv; subst hv; exact ⟨by simp, trivial⟩
  | .tmp t :: l, vs, hv => by
    simp only [lresults] at hv
    split at hv
    case h_2 => cases hv
    rename_i us hus
    simp only [Option.some.injEq] at hv
    subst hv
    obtain ⟨h1, h2⟩ := lresults_ok r ra hf1 hf2 hus
    obtain ⟨h3, h4⟩ := lev_ok r.glob.1 ra (.tmp t) _ rfl
    refine ⟨?_, h4, h2⟩
    simp only [Act.eval] at h3
    simp only [List.mapM_cons, hf1, Sem.run_bind, Sem.run_pure, Result.andThen_ok, h1, h3, List.map_cons]
  | .cell q t :: l, vs, hv => by
    simp only [lresults] at hv
    split at hv
    case h_2 => cases hv
    rename_i u us hu hus
    simp only [Option.some.injEq] at hv
    subst hv
    obtain ⟨h1, h2⟩ := lresults_ok r ra hf1 hf2 hus
    obtain ⟨h3, h4⟩ := lev_ok r.glob.1 ra (.tmp q) _ rfl
    obtain ⟨h5, h6⟩ := lload_ok (P := P) r h4 hu
    refine ⟨?_, h6, h2⟩
    simp only [Act.eval] at h3
    have h7 : (do loadVar t (← asAddr (a.tmps.getD q undef)) : Sem Value).run P w = .ok (ren R u) w := by
      rw [h3]
      cases hx : (la.tmps.get q).getD undef with
      | pointer p =>
        rw [hx] at h5 hu
        cases p with
        | none => simp [lload] at hu
        | some p => simp only [Instr.loadAt, ren, Instr.sureAddr, Sem.run_bind, Sem.run_pure, Result.andThen_ok] at h5; simp only [ren, asAddr, Sem.run_bind, Sem.run_pure, Result.andThen_ok, h5]
      | _ => rw [hx] at hu; simp [lload] at hu
    rw [List.mapM_cons, hf2, Sem.run_bind, h7, Result.andThen_ok, Sem.run_bind, h1]
    rfl

def resultOf (vs : List Value) : Value := match vs with | [v] => v | vs => .tuple vs.toArray
theorem results_ok {R : Map} {h : LH} {w : World} {la : LAct} {a : Act} {fn : Func} {vs : List Value} (r : HRel R h w.heap) (ra : ARel R la a) (hv : lresults P la h fn.results.toList = some vs) :
    (results fn a.tmps).run P w = .ok (ren R (resultOf vs)) w ∧ wfv R (resultOf vs) := by
  have key := fun f hf1 hf2 => lresults_ok (P := P) (f := f) r ra hf1 hf2 hv
  have h2 : wfL R vs := (key (fun x => match x with | .tmp t => pure (a.tmps.getD t undef) | .cell q t => do loadVar t (← asAddr (a.tmps.getD q undef))) (fun _ => rfl) (fun _ _ => rfl)).2
  constructor
  · unfold results
    rw [Sem.run_bind, Array.mapM_eq_mapM_toList, Sem.run_map, (key _ (fun _ => rfl) (fun _ _ => rfl)).1]
    simp only [Result.andThen_ok, Sem.run_pure]
    congr 1
    cases vs with
    | nil => rfl
    | cons v vs => cases vs with
      | nil => rfl
      | cons u vs => simp [resultOf, ren, renA, renL_eq]
  · cases vs with
    | nil => trivial
    | cons v vs => cases vs with
      | nil => exact h2.1
      | cons u vs => exact h2

/-- The marks of the ranges over functions are taken in at the return. -/
theorem lmarks_ok {fn : Func} {K : Ending → World → Prop} {tmps : Array Value} : ∀ (l : List Nat) {R : Map} {h h' : LH} {w : World}, HRel R h w.heap → (∀ i ∈ l, (R i).isSome = true) → lmarks h l = some h' →
    (∀ w', Goes R h w R h' w' → ∃ v, (results fn tmps).run P w' = .ok v w' ∧ K (.returned v) w') →
    LeavesInM Fence.wide 0 P fn tmps K (l.map (fun i => ({ target := .collected (R.b i), args := #[] } : Deferred))) .returning w
  | [], R, h, h', w, r, _, hv, hk => by
    simp only [lmarks, Option.some.injEq] at hv
    subst hv
    exact hk w (Goes.refl r)
  | i :: l, R, h, h', w, r, hi, hv, hk => by
    simp only [lmarks] at hv
    split at hv
    case h_2 => cases hv
    rename_i hg
    obtain ⟨h1, h2, h3⟩ := r.ok i _ hg
    obtain ⟨w1, hr, hgo⟩ := setObj_ok (P := P) r hg h2 (fun _ _ _ e => by cases e) (o' := .obj (.deferred none)) (x' := .deferred none) ⟨rfl, trivial⟩
    refine ⟨by simp, .inl ⟨R.b i, w1, rfl, ?_, ?_⟩⟩
    · have hget : (getObj (R.b i)).run P w = .ok (.deferred (some [])) w := run_getObj_eq h2 (fun _ _ _ e => by cases e)
      simp only [Instr.takeDeferred, Sem.run_bind, hget, Result.andThen_ok, hr, Sem.run_pure]
    · exact lmarks_ok l hgo.rel (fun j hj => hi j (by simp [hj])) hv (fun w' hg' => hk w' (hgo.trans hg'))
end
end Go.Proofs.YtedfhallhpkkhaaGreatDoor.X
