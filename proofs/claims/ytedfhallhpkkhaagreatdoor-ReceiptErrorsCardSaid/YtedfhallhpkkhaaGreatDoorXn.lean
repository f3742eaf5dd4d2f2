/- What the local run says is what the model does: code, rounds of ranges over functions, calls; and so the whole run. Any program. -/
import Derived.Test.YtedfhallhpkkhaaGreatDoorXm
set_option linter.unusedVariables false
set_option linter.unusedSimpArgs false
namespace Go.Proofs.YtedfhallhpkkhaaGreatDoor.X
open Go Go.RowKit

abbrev AnyF := (Task → Option Res) → Array Oper → LAct → LH → Option (LAct × LH)
/-- A region that draws its order, whatever way it is run locally, ends so in every order. -/
def AnyOk (P : Program) (c : Ctx) (any : AnyF) : Prop :=
  ∀ ih, SoundAll P c ih → ∀ ops la h la' h', any ih ops la h = some (la', h') → ∀ R a w rr id Q, HRel R h w.heap → ARel R la a → Base c R h w →
    (∀ R' a' w', Goes R h w R' h' w' → ARel R' la' a' → Q .normal a' w') → (Code.region id ops true).wpIn (fen rr) 0 P Q a w

theorem loopAt_get {h : LH} {i : Nat} {l : LLoop} (hl : loopAt h i = some l) : h.get i = some (.loop l) := by
  unfold loopAt at hl
  split at hl
  · rename_i l' hg
    simp only [Option.some.injEq] at hl
    subst hl
    exact hg
  · cases hl
theorem getLoop_ok {P : Program} {R : Map} {h : LH} {w : World} (r : HRel R h w.heap) {i : Nat} {l : LLoop} (hl : loopAt h i = some l) :
    ∃ f ta, (Instr.getLoop (R.b i)).run P w = .ok { state := l.state, pending := l.pending, fn := f, tmps := ta, params := l.params, assign := l.assign, body := l.body, defers := R.b l.defers } w ∧
      w.heap[R.b i]? = some (.loop { state := l.state, pending := l.pending, fn := f, tmps := ta, params := l.params, assign := l.assign, body := l.body, defers := R.b l.defers }) ∧ TRel R l.tmps l.n ta ∧ (R l.defers).isSome = true := by
  obtain ⟨_, f, ta, h1, h2, h3⟩ := r.ok i _ (loopAt_get hl)
  refine ⟨f, ta, ?_, h1, h2, h3⟩
  have := run_getObj_eq (P := P) h1 (fun _ _ _ e => by cases e)
  simp only [Instr.getLoop, Sem.run_bind, this, Result.andThen_ok, Sem.run_pure]
/-- The loop's record is written with another state. -/
theorem setLoop_ok {P : Program} {R : Map} {h : LH} {w : World} (r : HRel R h w.heap) {i : Nat} {l l' : LLoop} (hl : loopAt h i = some l) {f : FuncId} {ta : Array Value}
    (hx : w.heap[R.b i]? = some (.loop { state := l.state, pending := l.pending, fn := f, tmps := ta, params := l.params, assign := l.assign, body := l.body, defers := R.b l.defers }))
    (ht : TRel R l.tmps l.n ta) (hd : (R l.defers).isSome = true) (h1 : l'.tmps = l.tmps) (h2 : l'.n = l.n) (h3 : l'.defers = l.defers) :
    ∃ w', (setObj (R.b i) (.loop { state := l'.state, pending := l'.pending, fn := f, tmps := ta, params := l'.params, assign := l'.assign, body := l'.body, defers := R.b l.defers })).run P w = .ok () w' ∧ Goes R h w R (h.put i (.loop l')) w' := by
  refine setObj_ok r (loopAt_get hl) hx (fun _ _ _ e => by cases e) ?_
  exact ⟨f, ta, by rw [h3], by rw [h1, h2]; exact ht, by rw [h3]; exact hd⟩

theorem roMap {R R' : Map} (h : R.ext R') {ro : Option Nat} (hr : ∀ l, ro = some l → (R l).isSome = true) : ro.map R'.b = ro.map R.b := by
  cases ro with
  | none => rfl
  | some l => simp [Map.ext_b h (hr l rfl)]
theorem roSome {R R' : Map} (h : R.ext R') {ro : Option Nat} (hr : ∀ l, ro = some l → (R l).isSome = true) : ∀ l, ro = some l → (R' l).isSome = true := fun l hl => Map.ext_isSome h (hr l hl)

theorem CodePost.before {R R1 : Map} {h h1 : LH} {w w1 : World} {e : LExit} {a' : LAct} {h' : LH} {er : Exit} {ar' : Act} {w' : World} (g : Goes R h w R1 h1 w1) (k : CodePost R1 h1 w1 e a' h' er ar' w') : CodePost R h w e a' h' er ar' w' := by
  obtain ⟨h2, R', h3, h4⟩ := k
  exact ⟨h2, R', g.trans h3, h4⟩

section
variable {P : Program} {c : Ctx} {orc : Orc} {ih : Task → Option Res} {any : AnyF}
theorem Sound.code_of {ro : Option Nat} {k : Code} {a : LAct} {h : LH} {r : Res} (hs : Sound P c (.code ro k a h) r) : ∃ e a' h', r = .code e a' h' := by
  cases r with
  | code e a' h' => exact ⟨e, a', h', rfl⟩
  | val v h' => exact hs.elim

theorem lcode_ok (hs : SoundAll P c ih) (ho : OrcOk P c orc) (hany : AnyOk P c any) {ro : Option Nat} {k : Code} {la : LAct} {h : LH} {res : Res} (hv : lcode P orc ih any ro k la h = some res) : Sound P c (.code ro k la h) res := by
  cases k with
  | skip =>
    simp only [lcode, Option.some.injEq] at hv
    subst hv
    exact fun R a w r ra b hr => wpIn_skip ⟨rfl, R, Goes.refl r, ra⟩
  | label l =>
    simp only [lcode, Option.some.injEq] at hv
    subst hv
    exact fun R a w r ra b hr => wpIn_label ⟨rfl, R, Goes.refl r, ra⟩
  | ret =>
    simp only [lcode, Option.some.injEq] at hv
    subst hv
    exact fun R a w r ra b hr => wpIn_ret ⟨rfl, R, Goes.refl r, ra⟩
  | exit id =>
    simp only [lcode, Option.some.injEq] at hv
    subst hv
    exact fun R a w r ra b hr => wpIn_exit ⟨rfl, R, Goes.refl r, ra⟩
  | region id ops draw =>
    simp only [lcode] at hv
    split at hv
    case h_2 => cases hv
    rename_i la' h' hr'
    simp only [Option.some.injEq] at hv
    subst hv
    intro R a w r ra b hr
    cases draw with
    | true =>
      simp only [if_true] at hr'
      exact hany ih hs ops la h la' h' hr' R a w _ id _ r ra b (fun R' a' w' hg ra' => ⟨rfl, R', hg, ra'⟩)
    | false =>
      simp only [Bool.false_eq_true, if_false] at hr'
      exact wpIn_region (lops_ok hs ho _ r ra b hr' (fun R' a' w' hg ra' => ⟨rfl, R', hg, ra'⟩))
  | seq x y =>
    simp only [lcode] at hv
    split at hv
    · rename_i a1 h1 hx
      have hsx := hs _ _ hx
      obtain ⟨e, a', h', rfl⟩ := (hs _ _ hv).code_of
      have hsy := hs _ _ hv
      intro R a w r ra b hr
      refine wpIn_seq (wpIn_mono (hsx R a w r ra b hr).wp ?_)
      rintro er a1r w1 ⟨rfl, R1, hg, ra1⟩
      have hy := (hsy R1 a1r w1 hg.rel ra1 (b.goes hg) (roSome hg.ext hr)).wp
      rw [roMap hg.ext hr] at hy
      exact wpIn_mono hy (fun er ar' w' hp => hp.before hg)
    · rename_i hx
      have hsx := hs _ _ hv
      obtain ⟨e, a', h', rfl⟩ := hsx.code_of
      intro R a w r ra b hr
      refine wpIn_seq (wpIn_mono (hsx R a w r ra b hr).wp ?_)
      rintro er a1r w1 ⟨rfl, R1, hg, ra1⟩
      cases e with
      | normal => exact absurd hv (hx a' h')
      | exit id => exact ⟨rfl, R1, hg, ra1⟩
      | ret => exact ⟨rfl, R1, hg, ra1⟩
  | cond x k1 k2 =>
    simp only [lcode] at hv
    split at hv
    case h_2 => cases hv
    rename_i t ht
    have hsx := hs _ _ hv
    obtain ⟨e, a', h', rfl⟩ := hsx.code_of
    intro R a w r ra b hr
    have hc : a.eval x = .bool t := (lev_ok r.glob.1 ra x _ ht).1
    refine wpIn_cond hc ?_
    have := (hsx R a w r ra b hr).wp
    cases t <;> exact this
  | block id k =>
    simp only [lcode] at hv
    split at hv
    · rename_i j a1 h1 hx
      have hsx := hs _ _ hx
      by_cases hj : j = id
      · rw [if_pos hj] at hv
        simp only [Option.some.injEq] at hv
        subst hv
        intro R a w r ra b hr
        refine wpIn_block (wpIn_mono (hsx R a w r ra b hr).wp ?_)
        rintro er a1r w1 ⟨rfl, R1, hg, ra1⟩
        show (if j = id then _ else _)
        rw [if_pos hj]
        exact ⟨rfl, R1, hg, ra1⟩
      · rw [if_neg hj] at hv
        simp only [Option.some.injEq] at hv
        subst hv
        intro R a w r ra b hr
        refine wpIn_block (wpIn_mono (hsx R a w r ra b hr).wp ?_)
        rintro er a1r w1 ⟨rfl, R1, hg, ra1⟩
        show (if j = id then _ else _)
        rw [if_neg hj]
        exact ⟨rfl, R1, hg, ra1⟩
    · rename_i hx
      have hsx := hs _ _ hv
      obtain ⟨e, a', h', rfl⟩ := hsx.code_of
      intro R a w r ra b hr
      refine wpIn_block (wpIn_mono (hsx R a w r ra b hr).wp ?_)
      rintro er a1r w1 ⟨rfl, R1, hg, ra1⟩
      cases e with
      | normal => exact ⟨rfl, R1, hg, ra1⟩
      | exit id => exact absurd hv (hx id a' h')
      | ret => exact ⟨rfl, R1, hg, ra1⟩
  | loop k =>
    simp only [lcode] at hv
    split at hv
    · rename_i a1 h1 hx
      have hsx := hs _ _ hx
      have hsl := hs _ _ hv
      obtain ⟨e, a', h', rfl⟩ := hsl.code_of
      intro R a w r ra b hr
      refine loopIn_round (wpIn_mono (hsx R a w r ra b hr).wp ?_)
      rintro er a1r w1 ⟨rfl, R1, hg, ra1⟩
      have hl : loopIn (fen (ro.map R1.b)) 0 P k (CodePost R1 h1 w1 e a' h') a1r w1 := hsl R1 a1r w1 hg.rel ra1 (b.goes hg) (roSome hg.ext hr)
      rw [roMap hg.ext hr] at hl
      intro bb todo cs q1 q2 q3
      obtain ⟨e2, a2, w2, hp, harr⟩ := hl bb todo cs q1 q2 q3
      exact ⟨e2, a2, w2, hp.before hg, harr⟩
    · rename_i hx
      have hsx := hs _ _ hv
      obtain ⟨e, a', h', rfl⟩ := hsx.code_of
      intro R a w r ra b hr
      refine loopIn_round (wpIn_mono (hsx R a w r ra b hr).wp ?_)
      rintro er a1r w1 ⟨rfl, R1, hg, ra1⟩
      cases e with
      | normal => exact absurd hv (hx a' h')
      | exit id => exact ⟨rfl, R1, hg, ra1⟩
      | ret => exact ⟨rfl, R1, hg, ra1⟩
  | rangeFunc g ps assign body =>
    simp only [lcode] at hv
    split at hv
    case h_2 => cases hv
    rename_i f fs cs hgv
    split at hv
    case h_2 => cases hv
    rename_i h1 d mark hent
    split at hv
    case isFalse => cases hv
    rename_i hpf
    split at hv
    case h_2 => cases hv
    rename_i v3 h3 hcall
    split at hv
    case h_2 => cases hv
    rename_i lp hlp
    split at hv
    case isTrue => cases hv
    rename_i hbusy
    have hsc := hs _ _ hcall
    -- what the pending jump comes to
    have hjump : ∃ e, res = .code e { la with marks := mark ++ la.marks } (h3.put h1.next (.loop { lp with state := .exhausted })) ∧ ((lp.pending = none ∧ e = .normal) ∨ (lp.pending = some .ret ∧ e = .ret) ∨ ∃ id, lp.pending = some (.exit id) ∧ e = .exit id) := by
      split at hv
      · rename_i hp; simp only [Option.some.injEq] at hv; exact ⟨.normal, hv.symm, .inl ⟨hp, rfl⟩⟩
      · rename_i hp; simp only [Option.some.injEq] at hv; exact ⟨.ret, hv.symm, .inr (.inl ⟨hp, rfl⟩)⟩
      · rename_i id hp; simp only [Option.some.injEq] at hv; exact ⟨.exit id, hv.symm, .inr (.inr ⟨id, hp, rfl⟩)⟩
      · cases hv
    obtain ⟨e, rfl, hpend⟩ := hjump
    intro R a w r ra b hr
    obtain ⟨hg1, hg2⟩ := lev_ok r.glob.1 ra g _ hgv
    simp only [wfv] at hg2
    refine wpIn_rangeFunc ?_
    intro fnid _
    -- the block for the deferred calls
    have henter1 : ∃ R1 w1, Goes R h w R1 h1 w1 ∧ (R1 d).isSome = true ∧ (∀ i ∈ mark, (R1 i).isSome = true) ∧
        ∀ l w2, (newObj (.loop { state := .ready, pending := none, fn := fnid, tmps := a.tmps, params := ps, assign, body, defers := R1.b d })).run P w1 = .ok l w2 →
          (Instr.enterLoop fnid a.tmps ps assign body (ro.map R.b)).run P w = .ok (l, mark.map (fun i => ({ target := .collected (R1.b i), args := #[] } : Deferred))) w2 := by
      cases ro with
      | none =>
        simp only [Option.some.injEq, Prod.mk.injEq] at hent
        obtain ⟨rfl, rfl, rfl⟩ := hent
        obtain ⟨R1, w1, q1, q2, q3⟩ := newObj_ok (P := P) (o := .obj (.deferred (some []))) (x := .deferred (some [])) r ⟨rfl, trivial⟩
        refine ⟨R1, w1, q3, q2, fun i hi => by simp only [List.mem_singleton] at hi; rw [hi]; exact q2, fun l w2 hl => ?_⟩
        simp only [Instr.enterLoop, Option.map_none, Sem.run_bind, q1, Result.andThen_ok, Sem.run_pure, hl, List.map_cons, List.map_nil]
      | some l0 =>
        simp only at hent
        split at hent
        case h_2 => cases hent
        rename_i lr hlr
        simp only [Option.some.injEq, Prod.mk.injEq] at hent
        obtain ⟨rfl, rfl, rfl⟩ := hent
        obtain ⟨f', ta', q1, q2, q3, q4⟩ := getLoop_ok (P := P) r hlr
        refine ⟨R, w, Goes.refl r, q4, (fun i hi => by cases hi), fun l w2 hl => ?_⟩
        simp only [Instr.enterLoop, Option.map_some, Sem.run_bind, q1, Result.andThen_ok, Sem.run_pure, hl, List.map_nil]
    obtain ⟨R1, w1, G1, hd, hmk, hrun1⟩ := henter1
    have ra1 := ra.ext G1.ext
    -- the record
    let lp0 : LLoop := { state := .ready, pending := none, tmps := la.tmps, n := la.n, params := ps, assign, body, defers := d }
    have hext2 : R1.ext (R1.put h1.next w1.heap.size 0) := Map.put_ext (G1.rel.fresh _ (Nat.le_refl _))
    obtain ⟨R2, w2, q1, q2, G2⟩ := newObj_ok (P := P) (o := .loop lp0) (x := .loop { state := .ready, pending := none, fn := fnid, tmps := a.tmps, params := ps, assign, body, defers := R1.b d }) G1.rel
      ⟨fnid, a.tmps, by rw [Map.ext_b hext2 hd], ra1.tmps.ext hext2, Map.ext_isSome hext2 hd⟩
    have G12 := G1.trans G2
    refine ⟨R2.b h1.next, mark.map (fun i => ({ target := .collected (R1.b i), args := #[] } : Deferred)), w2, { target := .fn (.func f) (renA R cs), args := renA R fs ++ #[.func (.yield (R2.b h1.next)) #[] #[]] }, w2, f,
      (renA R fs ++ #[.func (.yield (R2.b h1.next)) #[] #[]]) ++ renA R cs, w2, ?_, ?_, fun _ _ => trivial, ?_, fun hdd => by simp [fen, Fence.wide] at hdd, ?_⟩
    · -- enterLoop
      exact hrun1 _ _ q1
    · -- resolve
      have hm : (#[Operand.const (Value.func (.yield (R2.b h1.next)) #[] #[])] : Array Operand).map a.eval = #[Value.func (.yield (R2.b h1.next)) #[] #[]] := by simp [Act.eval]
      simp only [resolve, rangeCall, hg1, ren, renFn, Deferred.ofValue, hm]
      rfl
    · -- the call
      have hp := hpf
      unfold isPlainFn at hp
      show (callFunc f _).run P w2 = _
      unfold callFunc
      split at hp
      · rename_i fn hf
        simp only [Bool.and_eq_true, Bool.not_eq_true'] at hp
        have hnone : fn.body.isNone = false := by cases hb : fn.body <;> simp_all
        simp only [Sem.run_bind, run_program, Result.andThen_ok, hf, hp.1, hnone, Bool.false_eq_true, if_false, Sem.run_pure]
      · cases hp
    · -- what lies behind it
      have hwf : wfL R2 (fs.toList ++ [Value.func (.yield h1.next) #[] #[]] ++ cs.toList) := by
        rw [wfL_append, wfL_append]
        exact ⟨⟨wfA_toList.1 (renA_ext G12.ext fs hg2.2.1).2, ⟨q2, trivial, trivial⟩, trivial⟩, wfA_toList.1 (renA_ext G12.ext cs hg2.2.2).2⟩
      have hcl := hsc R2 w2 G2.rel hwf (b.goes G12)
      have hargs : ((fs.toList ++ [Value.func (.yield h1.next) #[] #[]] ++ cs.toList).map (ren R2)).toArray = (renA R fs ++ #[.func (.yield (R2.b h1.next)) #[] #[]]) ++ renA R cs := by
        rw [← (renA_ext G12.ext fs hg2.2.1).1, ← (renA_ext G12.ext cs hg2.2.2).1, renA_eq, renA_eq]
        apply Array.ext'
        simp [ren, renFn, renA, renL]
      rw [hargs] at hcl
      refine CallsIn.mono (F := fen (ro.map R.b)) hcl ?_
      rintro er w3 ⟨R3, rfl, hw3, G3⟩
      have G123 := G12.trans G3
      obtain ⟨f', ta', p1, p2, p3, p4⟩ := getLoop_ok (P := P) G3.rel hlp
      have hb3 : R3.b h1.next = R2.b h1.next := Map.ext_b G3.ext q2
      obtain ⟨w4, s1, G4⟩ := setLoop_ok (P := P) (l' := { lp with state := .exhausted }) G3.rel hlp p2 p3 p4 rfl rfl rfl
      rw [hb3] at p1 s1
      have hnb : (lp.state == LoopState.busy) = false := by simpa using hbusy
      refine ⟨lp.pending, w4, ?_, ?_⟩
      · simp only [Instr.endLoop, Sem.run_bind, p1, Result.andThen_ok, hnb, Bool.false_eq_true, if_false]
        simp only [s1, Result.andThen_ok, Sem.run_pure]
      · have Gall := G123.trans G4
        have raf : ARel R3 { la with marks := mark ++ la.marks } { a with defers := mark.map (fun i => ({ target := .collected (R1.b i), args := #[] } : Deferred)) ++ a.defers } := by
          have ra3 := ra.ext G123.ext
          have he13 : R1.ext R3 := Map.ext_trans G2.ext G3.ext
          refine ⟨ra3.tmps, ?_, fun i hi => ?_⟩
          · simp only [List.map_append]
            rw [ra3.defers]
            congr 1
            apply List.map_congr_left
            intro i hi
            rw [Map.ext_b he13 (hmk i hi)]
          · rcases List.mem_append.1 hi with hi | hi
            · exact Map.ext_isSome he13 (hmk i hi)
            · exact ra3.marks i hi
        rcases hpend with ⟨hp, rfl⟩ | ⟨hp, rfl⟩ | ⟨id, hp, rfl⟩
        · rw [hp] at Gall ⊢; exact ⟨rfl, R3, Gall, raf⟩
        · rw [hp] at Gall ⊢; exact wpIn_ret ⟨rfl, R3, Gall, raf⟩
        · rw [hp] at Gall ⊢; exact wpIn_exit ⟨rfl, R3, Gall, raf⟩
  | scope k => simp [lcode] at hv
  | goto l => simp [lcode] at hv
  | refuse w => simp [lcode] at hv

theorem lassign_ok {R : Map} : ∀ (ds : List Tmp) (vs : List Value) {t t' : T Value} {n : Nat} {ta : Array Value}, TRel R t n ta → wfL R vs → lassign t n ds vs = some t' →
    ds.length = vs.length ∧ TRel R t' n ((ds.zip (vs.map (ren R))).foldl (fun tmps p => tmps.setIfInBounds p.1 p.2) ta)
  | [], [], t, t', n, ta, ht, _, h => by simp only [lassign, Option.some.injEq] at h; subst h; exact ⟨rfl, ht⟩
  | [], _ :: _, _, _, _, _, _, _, h => by simp [lassign] at h
  | _ :: _, [], _, _, _, _, _, _, h => by simp [lassign] at h
  | d :: ds, v :: vs, t, t', n, ta, ht, hw, h => by
    simp only [lassign] at h
    split at h
    case isFalse => cases h
    rename_i hd
    have h1 : TRel R (t.set d (some v)) n (ta.setIfInBounds d (ren R v)) := by
      obtain ⟨g1, g2, g3⟩ := ht
      refine ⟨by simpa using g1, fun k hk => ?_, fun k u hk => ?_⟩
      · rw [T.get_set]
        by_cases he : k = d
        · subst he
          simp only [if_true, Option.getD_some]
          rw [Array.getElem?_setIfInBounds_self_of_lt (by omega)]
        · rw [if_neg he, Array.getElem?_setIfInBounds_ne (fun e => he e.symm)]
          exact g2 k hk
      · rw [T.get_set] at hk
        by_cases he : k = d
        · subst he
          simp only [if_true, Option.some.injEq] at hk
          subst hk
          exact ⟨hd, hw.1⟩
        · rw [if_neg he] at hk
          exact g3 k u hk
    obtain ⟨h2, h3⟩ := lassign_ok ds vs h1 hw.2 h
    exact ⟨by simp [h2], h3⟩
theorem endRound_ok {R : Map} {h : LH} {w : World} (r : HRel R h w.heap) {l : Nat} {lp : LLoop} (hl : loopAt h l = some lp) (jump : Option Code) :
    ∃ w', (Instr.endRound (R.b l) jump).run P w = .ok (.bool jump.isNone) w' ∧ Goes R h w R (h.put l (.loop { lp with state := if jump.isNone then .ready else .done, pending := jump })) w' := by
  obtain ⟨f, ta, p1, p2, p3, p4⟩ := getLoop_ok (P := P) r hl
  obtain ⟨w', s1, g⟩ := setLoop_ok (P := P) (l' := { lp with state := if jump.isNone then .ready else .done, pending := jump }) r hl p2 p3 p4 rfl rfl rfl
  refine ⟨w', ?_, g⟩
  simp only [Instr.endRound, Sem.run_bind, p1, Result.andThen_ok]
  simp only [s1, Result.andThen_ok, Sem.run_pure]

theorem lround_ok (hs : SoundAll P c ih) {l : Nat} {args : List Value} {h : LH} {res : Res} (hv : lround ih l args h = some res) : Sound P c (.round l args h) res := by
  unfold lround at hv
  split at hv
  case h_2 => cases hv
  rename_i lp hlp
  split at hv
  case h_2 => cases hv
  rename_i t ht
  split at hv
  case h_2 => cases hv
  rename_i a1 h1 hassign
  split at hv
  case h_2 => cases hv
  rename_i lp1 hlp1
  split at hv
  case h_2 => cases hv
  rename_i hready
  split at hv
  case h_2 => cases hv
  rename_i e a2 h2 hbody
  split at hv
  case h_2 => cases hv
  rename_i lp2 hlp2
  have hsa := hs _ _ hassign
  have hsb := hs _ _ hbody
  -- what the round hands back
  have hres : ∃ b st pd, res = .val (.bool b) (h2.put l (.loop { lp2 with state := st, pending := pd })) ∧
      ((e = .normal ∧ b = true ∧ st = .ready ∧ pd = none) ∨ (e = .ret ∧ b = false ∧ st = .done ∧ pd = some .ret) ∨ ∃ id, e = .exit id ∧ b = false ∧ st = .done ∧ pd = some (.exit id)) := by
    cases e with
    | normal => simp only [Option.some.injEq] at hv; exact ⟨true, .ready, none, hv.symm, .inl ⟨rfl, rfl, rfl, rfl⟩⟩
    | ret => simp only [Option.some.injEq] at hv; exact ⟨false, .done, some .ret, hv.symm, .inr (.inl ⟨rfl, rfl, rfl, rfl⟩)⟩
    | exit id => simp only [Option.some.injEq] at hv; exact ⟨false, .done, some (.exit id), hv.symm, .inr (.inr ⟨id, rfl, rfl, rfl, rfl⟩)⟩
  obtain ⟨bb, st, pd, rfl, hcase⟩ := hres
  intro R w r hw b hl
  obtain ⟨f, ta, p1, p2, p3, p4⟩ := getLoop_ok (P := P) r hlp
  obtain ⟨hlen, htr⟩ := lassign_ok lp.params.toList args p3 hw ht
  let tr := (lp.params.toList.zip (args.map (ren R))).foldl (fun tmps p => tmps.setIfInBounds p.1 p.2) ta
  refine ⟨f, tr, lp.assign, lp.body, ?_, ?_⟩
  · have hsz : ¬ ((args.map (ren R)).toArray.size ≠ lp.params.size) := by simp; simpa using hlen.symm
    simp only [Instr.yield, Sem.run_bind, p1, Result.andThen_ok, if_neg hsz, Sem.run_pure]
    congr 2
    simp only [tr, ← Array.foldl_toList, Array.toList_zip]
  · refine roundIn_of_wpIn (F := Fence.wide) trivial ?_
    have ra0 : ARel R { tmps := t, n := lp.n, marks := [] } { tmps := tr, defers := [] } := ⟨htr, rfl, fun i hi => by cases hi⟩
    have hA := (hsa R { tmps := tr, defers := [] } w r ra0 b (fun l' h' => by simp only [Option.some.injEq] at h'; subst h'; exact hl)).wp
    refine wpIn_mono hA ?_
    rintro er a1r w1 ⟨rfl, R1, G1, ra1⟩
    have hl1 := Map.ext_isSome G1.ext hl
    have hb1 : R1.b l = R.b l := Map.ext_b G1.ext hl
    obtain ⟨f1, ta1, q1, q2, q3, q4⟩ := getLoop_ok (P := P) G1.rel hlp1
    obtain ⟨w2, s1, G2⟩ := setLoop_ok (P := P) (l' := { lp1 with state := .busy }) G1.rel hlp1 q2 q3 q4 rfl rfl rfl
    rw [hb1] at q1 s1
    refine ⟨w2, ?_, ?_⟩
    · simp only [Instr.beginRound, Sem.run_bind, q1, Result.andThen_ok]
      simp only [s1, Result.andThen_ok, hready, Sem.run_pure]
    · have G12 := G1.trans G2
      have hB := (hsb R1 a1r w2 G2.rel ra1 (b.goes G12) (fun l' h' => by simp only [Option.some.injEq] at h'; subst h'; exact hl1)).wp
      simp only [Option.map_some, hb1] at hB
      refine wpIn_mono hB ?_
      rintro er a2r w3 ⟨rfl, R3, G3, ra3⟩
      have G123 := G12.trans G3
      have hb3 : R3.b l = R.b l := Map.ext_b G123.ext hl
      have fin : ∀ jump : Option Code, (∃ w', (Instr.endRound (R.b l) jump).run P w3 = .ok (.bool jump.isNone) w' ∧ Goes R3 h2 w3 R3 (h2.put l (.loop { lp2 with state := if jump.isNone then .ready else .done, pending := jump })) w') := by
        intro jump
        have := endRound_ok (P := P) G3.rel hlp2 jump
        rwa [hb3] at this
      rcases hcase with ⟨rfl, rfl, rfl, rfl⟩ | ⟨rfl, rfl, rfl, rfl⟩ | ⟨id, rfl, rfl, rfl, rfl⟩
      · obtain ⟨w4, e1, G4⟩ := fin none
        exact ⟨_, w4, e1, R3, rfl, trivial, G123.trans G4⟩
      · obtain ⟨w4, e1, G4⟩ := fin (some .ret)
        exact ⟨_, w4, e1, R3, rfl, trivial, G123.trans G4⟩
      · obtain ⟨w4, e1, G4⟩ := fin (some (.exit id))
        exact ⟨_, w4, e1, R3, rfl, trivial, G123.trans G4⟩

theorem lenter_ok {R : Map} {n : Nat} : ∀ (l : List Value) (i : Nat) {t t' : T Value}, lenter n i l t = some t' → wfL R l → (∀ k v, t.get k = some v → k < i ∧ k < n ∧ wfv R v) →
    (l = [] ∨ i + l.length ≤ n) ∧ (∀ k, t'.get k = if i ≤ k ∧ k < i + l.length then l[k - i]? else t.get k) ∧ (∀ k v, t'.get k = some v → k < n ∧ wfv R v)
  | [], i, t, t', h, _, ht => by
    simp only [lenter, Option.some.injEq] at h
    subst h
    exact ⟨.inl rfl, fun k => by rw [if_neg (by simp)], fun k v hk => ⟨(ht k v hk).2.1, (ht k v hk).2.2⟩⟩
  | v :: l, i, t, t', h, hw, ht => by
    simp only [lenter] at h
    split at h
    case isFalse => cases h
    rename_i hi
    obtain ⟨h1, h2, h3⟩ := lenter_ok l (i + 1) h hw.2 (fun k u hk => by
      rw [T.get_set] at hk
      by_cases he : k = i
      · subst he
        simp only [if_true, Option.some.injEq] at hk
        subst hk
        exact ⟨by omega, hi, hw.1⟩
      · rw [if_neg he] at hk
        obtain ⟨g1, g2, g3⟩ := ht k u hk
        exact ⟨by omega, g2, g3⟩)
    refine ⟨.inr ?_, fun k => ?_, h3⟩
    · rcases h1 with rfl | h1
      · simp; omega
      · simp only [List.length_cons]; omega
    · rw [h2 k, T.get_set]
      simp only [List.length_cons]
      by_cases hk : i + 1 ≤ k ∧ k < i + 1 + l.length
      · rw [if_pos hk, if_pos (by omega)]
        rw [show k - i = (k - (i + 1)) + 1 by omega]
        simp
      · rw [if_neg hk]
        by_cases he : k = i
        · subst he
          rw [if_pos rfl, if_pos (by omega)]
          simp
        · rw [if_neg he, if_neg (by omega)]

theorem lcallF_ok (hs : SoundAll P c ih) {f : FuncId} {args : List Value} {h : LH} {res : Res} (hv : lcallF P ih f args h = some res) : Sound P c (.call f args h) res := by
  unfold lcallF at hv
  split at hv
  case h_2 => cases hv
  rename_i fn hf
  split at hv
  case h_2 => cases hv
  rename_i k hk
  split at hv
  case h_2 => cases hv
  rename_i t ht
  split at hv
  case h_2 => cases hv
  rename_i e a' h' hcode
  have hsc := hs _ _ hcode
  have hout : (e = .normal ∨ e = .ret) ∧ ∃ h'' vs, lmarks h' a'.marks = some h'' ∧ lresults P a' h'' fn.results.toList = some vs ∧ res = .val (resultOf vs) h'' := by
    split at hv
    · cases hv
    · rename_i hne
      split at hv
      case h_2 => cases hv
      rename_i h'' hm
      refine ⟨by cases e with | normal => exact .inl rfl | ret => exact .inr rfl | exit id => exact absurd rfl (hne id), h'', ?_⟩
      split at hv
      · rename_i v hr
        simp only [Option.some.injEq] at hv
        exact ⟨[v], hm, hr, hv.symm⟩
      · rename_i vs hne1 hr
        simp only [Option.some.injEq] at hv
        refine ⟨vs, hm, hr, ?_⟩
        rw [← hv]
        congr 1
        unfold resultOf
        split
        · exact absurd rfl (hne1 _)
        · rfl
      · cases hv
  obtain ⟨he, h'', vs, hm, hr, rfl⟩ := hout
  intro R w r hw b
  obtain ⟨g1, g2, g3⟩ := lenter_ok (R := R) args 0 ht hw (fun k v hk => by cases hk)
  have hlen : args.length ≤ fn.ntmps := by rcases g1 with rfl | g1 <;> simp_all
  have ra0 : ARel R { tmps := t, n := fn.ntmps, marks := [] } { tmps := (args.map (ren R)).toArray ++ Array.replicate (fn.ntmps - (args.map (ren R)).toArray.size) undef, defers := [] } := by
    refine ⟨⟨by simp; omega, fun q hq => ?_, g3⟩, rfl, fun i hi => by cases hi⟩
    rw [g2 q]
    by_cases hqa : q < args.length
    · rw [if_pos (by omega), Array.getElem?_append_left (by simpa using hqa)]
      simp [hqa]
    · rw [if_neg (by omega), Array.getElem?_append_right (by simp; omega)]
      have hq' : q < fn.ntmps := hq
      have : q - args.length < fn.ntmps - args.length := by omega
      simp [T.get, this]
      rfl
  refine callsIn_of_wp_marks hf hk trivial (wpIn_mono (hsc R _ w r ra0 b (fun l hl => by cases hl)).wp ?_)
  rintro er ar' w' ⟨rfl, R', G, ra'⟩
  have hL := lmarks_ok (P := P) (fn := fn) (K := CallPost R h w (resultOf vs) h'') (tmps := ar'.tmps) a'.marks G.rel ra'.marks hm (fun w2 g => by
    obtain ⟨e1, e2⟩ := results_ok (P := P) g.rel ra' hr
    exact ⟨_, e1, R', rfl, e2, G.trans g⟩)
  rw [← ra'.defers] at hL
  rcases he with rfl | rfl
  · exact hL
  · exact hL

theorem lstep_ok (hs : SoundAll P c ih) (ho : OrcOk P c orc) (hany : AnyOk P c any) : SoundAll P c (lstep P orc ih any) := by
  intro t r hr
  cases t with
  | code ro k a h => exact lcode_ok hs ho hany hr
  | call f args h => exact lcallF_ok hs hr
  | round l args h => exact lround_ok hs hr
end
/-- THE LOCAL RUN IS SOUND. -/
theorem lrun_ok {P : Program} {c : Ctx} {orc : Orc} {any : AnyF} (ho : OrcOk P c orc) (hany : AnyOk P c any) : ∀ n, SoundAll P c (lrun P orc any n)
  | 0 => fun t r hr => by cases hr
  | n + 1 => lstep_ok (lrun_ok ho hany n) ho hany
end Go.Proofs.YtedfhallhpkkhaaGreatDoor.X
