/- The executor is right: soundness, and what holds of regions that draw. -/
import Derived.Test.YtedfhallhpkkhaaGreatDoorM2
import Derived.Below
set_option linter.unusedVariables false
set_option linter.unusedSimpArgs false
/- What the local run says is what the model does: the words of the soundness theorem, and one operation. Any program. -/
namespace Go.Proofs.YtedfhallhpkkhaaGreatDoor.X
open Go Go.RowKit

/-- Where a run begins: what lies below N0 in w0 stays. -/
structure Ctx where
  N0 : Nat
  w0 : World
structure Base (c : Ctx) (R : Map) (h : LH) (w : World) : Prop where
  low : ∀ i o, h.get i = some o → c.N0 ≤ R.b i
  below : Below c.N0 c.w0 w
  size : c.N0 ≤ w.heap.size
theorem Base.goes {c : Ctx} {R R' : Map} {h h' : LH} {w w' : World} (b : Base c R h w) (g : Goes R h w R' h' w') : Base c R' h' w' := by
  refine ⟨fun i o hi => ?_, ⟨g.os.trans b.below.os, g.tape.trans b.below.tape, g.output.trans b.below.output, Nat.le_trans b.below.size g.size, fun k hk => ?_⟩, Nat.le_trans b.size g.size⟩
  · rcases g.img i o hi with ⟨j, o', hj, hb⟩ | hge
    · rw [← hb]; exact b.low j o' hj
    · exact Nat.le_trans b.size hge
  · rw [g.frame k (Nat.lt_of_lt_of_le hk b.size) (fun i o hi e => by have := b.low i o hi; omega)]
    exact b.below.block k hk

theorem HRel.img_lt {R : Map} {h : LH} {H : Array Obj} (r : HRel R h H) {i : Nat} {o : LO} (hi : h.get i = some o) : R.b i < H.size := by
  obtain ⟨_, h2⟩ := r.ok i o hi
  rcases Nat.lt_or_ge (R.b i) H.size with h3 | h3
  · exact h3
  · rw [Array.getElem?_eq_none h3] at h2
    cases o with
    | cells => obtain ⟨_, _, _, h4, _⟩ := h2; cases h4
    | map => simp only [ORel] at h2; cases h2.1
    | loop => obtain ⟨_, _, h4, _⟩ := h2; cases h4
    | obj => simp only [ORel] at h2; cases h2.1
def OrcOk (P : Program) (c : Ctx) (orc : Orc) : Prop :=
  ∀ f g args v w, orc f = some g → plainL args = true → g args = some v → plain v = true → Below c.N0 c.w0 w → Calls P f args.toArray w (fun e w' => e = .returned v ∧ Below w.heap.size w w')

/-- The temporaries on both sides. -/
structure ARel (R : Map) (la : LAct) (a : Act) : Prop where
  tmps : TRel R la.tmps la.n a.tmps
  defers : a.defers = la.marks.map (fun i => ({ target := .collected (R.b i), args := #[] } : Deferred))
  marks : ∀ i ∈ la.marks, (R i).isSome = true
theorem ARel.ext {R R' : Map} {la : LAct} {a : Act} (h : R.ext R') (r : ARel R la a) : ARel R' la a := by
  refine ⟨r.tmps.ext h, ?_, fun i hi => Map.ext_isSome h (r.marks i hi)⟩
  rw [r.defers]
  apply List.map_congr_left
  intro i hi
  rw [Map.ext_b h (r.marks i hi)]
theorem lev_ok {R : Map} {la : LAct} {a : Act} (hg : R 0 = some (0, 0)) (r : ARel R la a) : Reads R (lev la) a.eval := by
  intro x v hv
  obtain ⟨h1, h2, h3⟩ := r.tmps
  cases x with
  | tmp t =>
    simp only [lev, Option.some.injEq] at hv
    subst hv
    simp only [Act.eval]
    rcases Nat.lt_or_ge t la.n with ht | ht
    · have := h2 t ht
      refine ⟨by simp only [Array.getD_eq_getD_getElem?, this, Option.getD_some], ?_⟩
      cases hg : la.tmps.get t with
      | none => exact wf_undef R
      | some u => exact (h3 t u hg).2
    · have hn : la.tmps.get t = none := by
        cases hg : la.tmps.get t with
        | none => rfl
        | some u => have := (h3 t u hg).1; omega
      rw [hn, Option.getD_none]
      refine ⟨?_, wf_undef R⟩
      rw [Array.getD_eq_getD_getElem?, Array.getElem?_eq_none (by omega)]
      rfl
  | const u =>
    simp only [lev] at hv
    split at hv
    case isFalse => cases hv
    rename_i hp
    simp only [Option.some.injEq] at hv
    subst hv
    exact ⟨(plain_ren R u hp).1.symm, (plain_ren R u hp).2⟩
  | global g =>
    simp only [lev] at hv
    split at hv
    case isFalse => cases hv
    rename_i h0
    simp only [Option.some.injEq] at hv
    subst hv
    subst h0
    refine ⟨?_, ?_⟩
    · simp [Act.eval, ren, Map.b, hg]
    · simp [wfv, hg]
  | func f =>
    simp only [lev, Option.some.injEq] at hv
    subst hv
    exact ⟨rfl, trivial, trivial, trivial⟩
theorem put_ok {R : Map} {la la' : LAct} {a : Act} {dst : Option Tmp} {v : Value} (r : ARel R la a) (hv : wfv R v) (hp : la.put dst v = some la') : ARel R la' (a.put dst (ren R v)) := by
  unfold LAct.put at hp
  obtain ⟨lt, ln, lm⟩ := la
  cases dst with
  | none => simp only [Option.some.injEq] at hp; subst hp; exact r
  | some d =>
    simp only at hp
    split at hp
    case isFalse => cases hp
    rename_i hd
    simp only [Option.some.injEq] at hp
    subst hp
    obtain ⟨h1, h2, h3⟩ := r.tmps
    refine ⟨⟨by simpa [Act.put] using h1, fun k hk => ?_, fun k u hk => ?_⟩, r.defers, r.marks⟩
    · simp only [Act.put, T.get_set]
      by_cases he : k = d
      · subst he
        simp only [if_true, Option.getD_some]
        have hk' : k < ln := hk
        have h1' : a.tmps.size = ln := h1
        rw [Array.getElem?_setIfInBounds_self_of_lt (by omega)]
      · rw [if_neg he, Array.getElem?_setIfInBounds_ne (fun e => he e.symm)]
        exact h2 k hk
    · rw [T.get_set] at hk
      by_cases he : k = d
      · subst he
        simp only [if_true, Option.some.injEq] at hk
        subst hk
        exact ⟨hd, hv⟩
      · rw [if_neg he] at hk
        exact h3 k u hk
theorem ren_bool {R : Map} {v : Value} {b : Bool} : ren R v = .bool b ↔ v = .bool b := by
  cases v with
  | pointer a => cases a <;> simp [ren]
  | slice a l c => cases a <;> simp [ren]
  | map a => cases a <;> simp [ren]
  | _ => simp [ren]
theorem lyielded_ok {R : Map} {la : LAct} {a : Act} (r : ARel R la a) (ops : Array Oper) (j : Nat) : yielded ops a.tmps j = lyielded ops la j := by
  unfold yielded lyielded
  cases hd : (ops[j]?).bind (·.dst) with
  | none => rfl
  | some t =>
    simp only [Option.bind_some]
    obtain ⟨h1, h2, h3⟩ := r.tmps
    cases hg : la.tmps.get t with
    | none =>
      rcases Nat.lt_or_ge t la.n with ht | ht
      · rw [h2 t ht, hg]; rfl
      · rw [Array.getElem?_eq_none (by omega)]
    | some v =>
      rw [h2 t (h3 t v hg).1, hg, Option.getD_some]
      cases v with
      | pointer a => cases a <;> rfl
      | slice a l c => cases a <;> rfl
      | map a => cases a <;> rfl
      | _ => rfl
theorem lwanted_ok {R : Map} {la : LAct} {a : Act} (r : ARel R la a) (ops : Array Oper) (o : Oper) : Region.wanted o (yielded ops a.tmps) = lwanted ops la o := by
  unfold Region.wanted lwanted
  cases o.guard with
  | none => rfl
  | some g => simp only [lyielded_ok r]

/-- The fence of no bound, in a round or not. -/
def fen (rr : Option Nat) : Fence := { Fence.wide with round := rr }
theorem fen_fn (rr : Option Nat) (f : FuncId) : (fen rr).fn f := trivial
theorem fen_depth (rr : Option Nat) : (fen rr).depth = none := rfl

def LExit.real : LExit → Exit
  | .normal => .normal
  | .exit id => .exit id
  | .ret => .ret

def CallPost (R : Map) (h : LH) (w : World) (v : Value) (h' : LH) (e : Ending) (w' : World) : Prop := ∃ R', e = .returned (ren R' v) ∧ wfv R' v ∧ Goes R h w R' h' w'
def CodePost (R : Map) (h : LH) (w : World) (e : LExit) (a' : LAct) (h' : LH) (er : Exit) (ar' : Act) (w' : World) : Prop := er = e.real ∧ ∃ R', Goes R h w R' h' w' ∧ ARel R' a' ar'
/-- A loop from its round's begin on. -/
def loopIn (F : Fence) (n : Nat) (P : Program) (k : Code) (Q : Exit → Act → World → Prop) (a : Act) (w : World) : Prop :=
  ∀ (b : Frame) (todo : List Item) (cs : List Frame), b.roundOf = F.round → F.fn b.fn → F.room (cs.length + 1 + n) →
    ∃ e a' w', Q e a' w' ∧ ArrivesIn (Machine.fenced P F) P (lone (b.atR a (.code k :: .inLoop k :: todo)) cs w) b todo cs e a' w'
theorem loopIn_wp {F : Fence} {n : Nat} {P : Program} {k : Code} {Q : Exit → Act → World → Prop} {a : Act} {w : World} (h : loopIn F n P k Q a w) : (Code.loop k).wpIn F n P Q a w := by
  intro b todo cs hro hb hr
  obtain ⟨e, a', w', hq, harr⟩ := h b todo cs hro hb hr
  exact ⟨e, a', w', hq, .of_steps (.one (fenced_calm hb hr rfl) stepR_loop) harr⟩
theorem loopIn_round {F : Fence} {n : Nat} {P : Program} {k : Code} {Q : Exit → Act → World → Prop} {a : Act} {w : World} (h : k.wpIn F n P (Exit.then (loopIn F n P k Q) Q) a w) : loopIn F n P k Q a w := by
  intro b todo cs hro hb hr
  obtain ⟨e, a₁, w₁, hq, harr⟩ := h b (.inLoop k :: todo) cs hro hb hr
  cases e with
  | normal =>
    obtain ⟨e₂, a₂, w₂, hq₂, harr₂⟩ := hq b todo cs hro hb hr
    exact ⟨e₂, a₂, w₂, hq₂, .of_steps (StepsIn.trans harr (.one (fenced_calm hb hr rfl) stepR_inLoop)) harr₂⟩
  | exit id => exact ⟨_, a₁, w₁, hq, .pass (x := .inLoop k) rfl (fun _ _ => .inl (by simp)) harr⟩
  | goto l => exact ⟨_, a₁, w₁, hq, .pass (x := .inLoop k) rfl (fun _ _ => .inl (by simp)) harr⟩
  | ret => exact ⟨_, a₁, w₁, hq, .pass (x := .inLoop k) rfl (fun _ _ => .inl (by simp)) harr⟩
  | panic ch => exact ⟨_, a₁, w₁, hq, .pass (x := .inLoop k) rfl (fun _ _ => .inl (by simp)) harr⟩
  | outgrown => exact ⟨_, a₁, w₁, hq, .pass (x := .inLoop k) rfl (fun _ _ => .inl (by simp)) harr⟩
def SoundCode (F : Fence) (P : Program) (k : Code) (Q : Exit → Act → World → Prop) (a : Act) (w : World) : Prop :=
  match k with
  | .loop c => loopIn F 0 P c Q a w
  | k => k.wpIn F 0 P Q a w
theorem SoundCode.wp {F : Fence} {P : Program} {k : Code} {Q : Exit → Act → World → Prop} {a : Act} {w : World} (h : SoundCode F P k Q a w) : k.wpIn F 0 P Q a w := by
  unfold SoundCode at h
  split at h
  · exact loopIn_wp h
  · exact h
def Sound (P : Program) (c : Ctx) : Task → Res → Prop
  | .code ro k a h, .code e a' h' => ∀ R ar w, HRel R h w.heap → ARel R a ar → Base c R h w → (∀ l, ro = some l → (R l).isSome = true) → SoundCode (fen (ro.map R.b)) P k (CodePost R h w e a' h') ar w
  | .call f args h, .val v h' => ∀ R w, HRel R h w.heap → wfL R args → Base c R h w → CallsIn Fence.wide 0 P f (args.map (ren R)).toArray w (CallPost R h w v h')
  | .round l args h, .val v h' => ∀ R w, HRel R h w.heap → wfL R args → Base c R h w → (R l).isSome = true →
      ∃ f tmps assign body, (Instr.yield (R.b l) (args.map (ren R)).toArray).run P w = .ok (.round (R.b l) f tmps assign body) w ∧ RoundIn Fence.wide 0 P (R.b l) f tmps assign body w (CallPost R h w v h')
  | _, _ => False
def SoundAll (P : Program) (c : Ctx) (ih : Task → Option Res) : Prop := ∀ t r, ih t = some r → Sound P c t r

/-- What one operation, or one call, comes to. -/
def Outc (F : Fence) (P : Program) (s : Sem Next) (w : World) (K : Value → World → Prop) : Prop :=
  match s.run P w with
  | .ok (.value v) w' => K v w'
  | .ok .skip w' => K undef w'
  | .ok (.enter f args) w' => CallsIn F 0 P f args w' (fun e w'' => ∃ v, e = .returned v ∧ K v w'')
  | .ok (.round l f tmps assign body) w' => RoundIn F 0 P l f tmps assign body w' (fun e w'' => ∃ v, e = .returned v ∧ K v w'')
  | _ => False
theorem Outc.upon {rr : Option Nat} {P : Program} {o : Oper} {a : Act} {s : Sem Next} {w : World} {K : Value → World → Prop} {next : Act → World → Prop} {Q : Exit → Act → World → Prop}
    (h : Outc (fen rr) P s w K) (hk : ∀ v w', K v w' → next (a.put o.dst v) w') : o.uponIn (fen rr) 0 P a next Q (s.run P w) := by
  unfold Outc at h
  generalize s.run P w = r at h ⊢
  cases r with
  | halt x w' => cases x <;> exact h.elim
  | ok n w' =>
    cases n <;> simp only [Oper.uponIn] at h ⊢
    case value v => exact hk _ _ h
    case skip => exact hk _ _ h
    case enter f args =>
      refine ⟨fun hd => by simp [fen, Fence.wide] at hd, h.mono ?_⟩
      rintro e w'' ⟨v, rfl, hv⟩
      exact hk _ _ hv
    case round l f tmps assign body =>
      refine ⟨fun hd => by simp [fen, Fence.wide] at hd, h.mono ?_⟩
      rintro e w'' ⟨v, rfl, hv⟩
      exact hk _ _ hv
    all_goals exact h.elim
theorem Outc.of_run {F : Fence} {P : Program} {R : Map} {h h' : LH} {w : World} {s : Sem Next} {v : Value} (k : OpRun P R h w s v h') : Outc F P s w (fun vr w' => ∃ R', vr = ren R' v ∧ wfv R' v ∧ Goes R h w R' h' w') := by
  obtain ⟨R', w', h1 | ⟨h1, rfl⟩, h2, h3⟩ := k
  · unfold Outc; rw [h1]; exact ⟨R', rfl, h2, h3⟩
  · unfold Outc; rw [h1]; exact ⟨R', rfl, h2, h3⟩

theorem wfL_append {R : Map} {l l' : List Value} : wfL R (l ++ l') ↔ wfL R l ∧ wfL R l' := by
  simp only [wfL_iff, List.mem_append]
  exact ⟨fun h => ⟨fun v hv => h v (.inl hv), fun v hv => h v (.inr hv)⟩, fun h v hv => hv.elim (h.1 v) (h.2 v)⟩
theorem wfA_toList {R : Map} {a : Array Value} : wfA R a ↔ wfL R a.toList := by cases a; exact Iff.rfl
theorem plainL_iff (l : List Value) : plainL l = true ↔ ∀ v ∈ l, plain v = true := by
  induction l with
  | nil => simp [plainL]
  | cons v l ih => simp [plainL, ih]

section
variable {P : Program} {c : Ctx} {orc : Orc} {ih : Task → Option Res}
/-- A function of the program, entered, or known from elsewhere, or of the model's own rows. -/
theorem lfun_ok (hs : SoundAll P c ih) (ho : OrcOk P c orc) {R : Map} {h h' : LH} {w : World} {f : FuncId} {args : List Value} {v : Value} (r : HRel R h w.heap) (hw : wfL R args) (b : Base c R h w)
    (hv : lfun P orc ih h f args = some (v, h')) (rr : Option Nat) : Outc (fen rr) P (callFunc f (args.map (ren R)).toArray) w (fun vr w' => ∃ R', vr = ren R' v ∧ wfv R' v ∧ Goes R h w R' h' w') := by
  unfold lfun at hv
  have enters : isPlainFn P f = true → ∀ args', (callFunc f args').run P w = .ok (.enter f args') w := by
    intro hp args'
    unfold isPlainFn at hp
    unfold callFunc
    split at hp
    · rename_i fn hf
      simp only [Bool.and_eq_true, Bool.not_eq_true'] at hp
      have hnone : fn.body.isNone = false := by cases hb : fn.body <;> simp_all
      simp only [Sem.run_bind, run_program, Result.andThen_ok, hf, hp.1, hnone, Bool.false_eq_true, if_false, Sem.run_pure]
    · cases hp
  cases hg : orc f with
  | some g =>
    rw [hg] at hv
    simp only at hv
    split at hv
    case isFalse => cases hv
    rename_i hp
    split at hv
    case h_2 => cases hv
    rename_i u hu
    split at hv
    case isFalse => cases hv
    rename_i hpu
    simp only [Option.some.injEq, Prod.mk.injEq] at hv
    obtain ⟨rfl, rfl⟩ := hv
    have hc := ho f g args u w hg hp.2 hu hpu b.below
    have hargs : args.map (ren R) = args := by
      have := (plainL_ren R args hp.2).1
      rwa [renL_eq] at this
    rw [hargs]
    have hfp := enters hp.1 args.toArray
    unfold Outc
    rw [hfp]
    refine CallsIn.mono ((callsIn_wide (n := 0)).2 hc) ?_
    rintro e w' ⟨rfl, hb⟩
    obtain ⟨h1, h2⟩ := plain_ren R u hpu
    refine ⟨u, rfl, R, h1.symm, h2, Map.ext_refl R, fun _ _ => rfl, ⟨fun i o hi => ?_, r.inj, r.fresh, r.glob.1, r.glob.2.1.of (hb.block 0 r.glob.2.1.pos), r.glob.2.2⟩, Nat.le_refl _, hb.size, hb.os, hb.tape, hb.output, fun k hk _ => hb.block k hk, fun i o hi => .inl ⟨i, o, hi, rfl⟩⟩
    obtain ⟨h3, h4⟩ := r.ok i o hi
    refine ⟨h3, ?_⟩
    rw [hb.block _ (r.img_lt hi)]
    exact h4
  | none =>
    rw [hg] at hv
    simp only at hv
    split at hv
    · rename_i hp
      split at hv
      · rename_i u k hk
        simp only [Option.some.injEq, Prod.mk.injEq] at hv
        obtain ⟨rfl, rfl⟩ := hv
        have := hs _ _ hk R w r hw b
        unfold Outc
        rw [enters hp]
        refine CallsIn.mono (F := fen rr) this ?_
        rintro e w' ⟨R', rfl, h2, h3⟩
        exact ⟨_, rfl, R', rfl, h2, h3⟩
      · cases hv
    · split at hv
      case isFalse => cases hv
      rename_i hp
      split at hv
      case h_2 => cases hv
      rename_i u hu
      split at hv
      case isFalse => cases hv
      rename_i hpu
      simp only [Option.some.injEq, Prod.mk.injEq] at hv
      obtain ⟨rfl, rfl⟩ := hv
      have hargs : args.map (ren R) = args := by
        have := (plainL_ren R args hp).1
        rwa [renL_eq] at this
      rw [hargs]
      unfold Outc
      rw [runP_run hu w]
      obtain ⟨h1, h2⟩ := plain_ren R u hpu
      exact ⟨R, h1.symm, h2, Goes.refl r⟩
end
end Go.Proofs.YtedfhallhpkkhaaGreatDoor.X
/- What the local run says is what the model does: regions in the text's order, results, marks. Any program. -/
namespace Go.Proofs.YtedfhallhpkkhaaGreatDoor.X
open Go Go.RowKit

section
variable {P : Program} {c : Ctx} {orc : Orc} {ih : Task → Option Res}
theorem lcallV_ok (hs : SoundAll P c ih) (ho : OrcOk P c orc) {R : Map} {h h' : LH} {w : World} {fv : Value} {args : List Value} {v : Value} (r : HRel R h w.heap) (hf : wfv R fv) (hw : wfL R args) (b : Base c R h w)
    (hv : lcallV P orc ih h fv args = some (v, h')) (rr : Option Nat) :
    Outc (fen rr) P (do let d ← Deferred.ofValue (ren R fv) (args.map (ren R)).toArray; invoke d.target d.args) w (fun vr w' => ∃ R', vr = ren R' v ∧ wfv R' v ∧ Goes R h w R' h' w') := by
  unfold lcallV at hv
  split at hv
  · rename_i f fs cs
    simp only [wfv] at hf
    have hall : wfL R (fs.toList ++ args ++ cs.toList) := wfL_append.2 ⟨wfL_append.2 ⟨wfA_toList.1 hf.2.1, hw⟩, wfA_toList.1 hf.2.2⟩
    have := lfun_ok hs ho r hall b hv rr
    have hargs : ((fs.toList ++ args ++ cs.toList).map (ren R)).toArray = (renA R fs ++ (args.map (ren R)).toArray) ++ renA R cs := by
      rw [renA_eq, renA_eq]
      apply Array.ext'
      simp
    rw [hargs] at this
    exact this
  · rename_i l fs cs
    simp only [wfv, wfFn] at hf
    split at hv
    · rename_i u k hk
      simp only [Option.some.injEq, Prod.mk.injEq] at hv
      obtain ⟨rfl, rfl⟩ := hv
      have hall : wfL R (fs.toList ++ args) := wfL_append.2 ⟨wfA_toList.1 hf.2.1, hw⟩
      obtain ⟨f, tmps, assign, body, hy, hr⟩ := hs _ _ hk R w r hall b hf.1
      have hargs : ((fs.toList ++ args).map (ren R)).toArray = renA R fs ++ (args.map (ren R)).toArray := by
        rw [renA_eq]
        apply Array.ext'
        simp
      rw [hargs] at hy
      have hrun : (do let d ← Deferred.ofValue (ren R (.func (.yield l) fs cs)) (args.map (ren R)).toArray; invoke d.target d.args : Sem Next).run P w = .ok (.round (R.b l) f tmps assign body) w := hy
      unfold Outc
      rw [hrun]
      refine RoundIn.mono (F := fen rr) hr ?_
      rintro e w' ⟨R', rfl, h2, h3⟩
      exact ⟨_, rfl, R', rfl, h2, h3⟩
    · cases hv
  · cases hv
theorem lexec_ok (hs : SoundAll P c ih) (ho : OrcOk P c orc) {R : Map} {h h' : LH} {w : World} {la : LAct} {a : Act} {o : Oper} {v : Value} (r : HRel R h w.heap) (ra : ARel R la a) (b : Base c R h w)
    (hv : lexec P orc ih la h o = some (v, h')) (rr : Option Nat) : Outc (fen rr) P (o.semAt rr a.eval) w (fun vr w' => ∃ R', vr = ren R' v ∧ wfv R' v ∧ Goes R h w R' h' w') := by
  unfold lexec at hv
  split at hv
  case isTrue => cases hv
  rename_i hd
  rw [Oper.semAt_eq rr a.eval o (fun k hk => by rw [hk] at hd; exact hd rfl)]
  have hρ := lev_ok r.glob.1 ra
  split at hv
  · rename_i fx args ts hop
    split at hv
    case h_2 => cases hv
    rename_i fv vs hf hvs
    obtain ⟨h1, h2⟩ := hρ fx fv hf
    obtain ⟨h3, h4⟩ := evals_ok hρ hvs
    have := lcallV_ok hs ho r h2 h4 b hv rr
    have hx : execOp a.eval o = (do let d ← Deferred.ofValue (ren R fv) (vs.map (ren R)).toArray; invoke d.target d.args) := by
      have h5 : args.map a.eval = (vs.map (ren R)).toArray := by
        apply Array.ext'
        simp [← h3]
      simp only [execOp, hop, resolve, h1, h5]
    rw [hx]
    exact this
  · exact Outc.of_run (lop_ok r hρ hv)

theorem lops_ok (hs : SoundAll P c ih) (ho : OrcOk P c orc) {ops : Array Oper} {rr : Option Nat} {Q : Exit → Act → World → Prop} : ∀ (l : List Nat) {R : Map} {h h' : LH} {w : World} {la la' : LAct} {a : Act}, HRel R h w.heap → ARel R la a → Base c R h w →
    lops P orc ih ops l la h = some (la', h') → (∀ R' a' w', Goes R h w R' h' w' → ARel R' la' a' → Q .normal a' w') → wpOpsIn (fen rr) 0 P ops Q l a w
  | [], R, h, h', w, la, la', a, r, ra, b, hv, hq => by
    simp only [lops, Option.some.injEq, Prod.mk.injEq] at hv
    obtain ⟨rfl, rfl⟩ := hv
    exact hq R a w (Goes.refl r) ra
  | i :: l, R, h, h', w, la, la', a, r, ra, b, hv, hq => by
    simp only [lops] at hv
    simp only [wpOpsIn]
    split at hv
    case h_2 => cases hv
    rename_i o hoi
    simp only [hoi]
    split at hv
    case h_2 => cases hv
    rename_i v k hk
    split at hv
    case h_2 => cases hv
    rename_i la1 hp
    rw [lwanted_ok ra]
    by_cases hwant : lwanted ops la o = true
    · rw [if_pos hwant] at hk ⊢
      have hout := lexec_ok hs ho r ra b hk rr
      refine ⟨fun f _ => trivial, hout.upon ?_⟩
      rintro vr w1 ⟨R1, rfl, hwf, hg⟩
      have ra1 := put_ok (ra.ext hg.ext) hwf hp
      exact lops_ok hs ho l hg.rel ra1 (b.goes hg) hv (fun R' a' w' hg' ra' => hq R' a' w' (hg.trans hg') ra')
    · rw [if_neg hwant] at hk
      rw [if_neg hwant]
      simp only [Option.some.injEq, Prod.mk.injEq] at hk
      obtain ⟨rfl, rfl⟩ := hk
      refine ⟨fun f _ => trivial, ?_⟩
      have ra1 := put_ok ra (wf_undef R) hp
      exact lops_ok hs ho l r ra1 b hv hq

theorem lresults_ok {R : Map} {h : LH} {w : World} {la : LAct} {a : Act} (r : HRel R h w.heap) (ra : ARel R la a) {f : ResultVar → Sem Value} (hf1 : ∀ t, f (.tmp t) = pure (a.tmps.getD t undef))
    (hf2 : ∀ q t, f (.cell q t) = (do loadVar t (← asAddr (a.tmps.getD q undef)))) : ∀ {l : List ResultVar} {vs : List Value}, lresults P la h l = some vs →
    (l.mapM f).run P w = .ok (vs.map (ren R)) w ∧ wfL R vs
  | [], vs, hv => by simp only [lresults, Option.some.injEq] at hv; subst hv; exact ⟨by simp, trivial⟩
  | .tmp t :: l, vs, hv => by
    simp only [lresults] at hv
    split at hv
    case h_2 => cases hv
    rename_i us hus
    simp only [Option.some.injEq] at hv
    subst hv
    obtain ⟨h1, h2⟩ := lresults_ok r ra hf1 hf2 hus
    obtain ⟨h3, h4⟩ := lev_ok r.glob.1 ra (.tmp t) _ rfl
    refine ⟨?_, h4, h2⟩
    simp only [Act.eval] at h3
    simp only [List.mapM_cons, hf1, Sem.run_bind, Sem.run_pure, Result.andThen_ok, h1, h3, List.map_cons]
  | .cell q t :: l, vs, hv => by
    simp only [lresults] at hv
    split at hv
    case h_2 => cases hv
    rename_i u us hu hus
    simp only [Option.some.injEq] at hv
    subst hv
    obtain ⟨h1, h2⟩ := lresults_ok r ra hf1 hf2 hus
    obtain ⟨h3, h4⟩ := lev_ok r.glob.1 ra (.tmp q) _ rfl
    obtain ⟨h5, h6⟩ := lload_ok (P := P) r h4 hu
    refine ⟨?_, h6, h2⟩
    simp only [Act.eval] at h3
    have h7 : (do loadVar t (← asAddr (a.tmps.getD q undef)) : Sem Value).run P w = .ok (ren R u) w := by
      rw [h3]
      cases hx : (la.tmps.get q).getD undef with
      | pointer p =>
        rw [hx] at h5 hu
        cases p with
        | none => simp [lload] at hu
        | some p => simp only [Instr.loadAt, ren, Instr.sureAddr, Sem.run_bind, Sem.run_pure, Result.andThen_ok] at h5; simp only [ren, asAddr, Sem.run_bind, Sem.run_pure, Result.andThen_ok, h5]
      | _ => rw [hx] at hu; simp [lload] at hu
    rw [List.mapM_cons, hf2, Sem.run_bind, h7, Result.andThen_ok, Sem.run_bind, h1]
    rfl

def resultOf (vs : List Value) : Value := match vs with | [v] => v | vs => .tuple vs.toArray
theorem results_ok {R : Map} {h : LH} {w : World} {la : LAct} {a : Act} {fn : Func} {vs : List Value} (r : HRel R h w.heap) (ra : ARel R la a) (hv : lresults P la h fn.results.toList = some vs) :
    (results fn a.tmps).run P w = .ok (ren R (resultOf vs)) w ∧ wfv R (resultOf vs) := by
  have key := fun f hf1 hf2 => lresults_ok (P := P) (f := f) r ra hf1 hf2 hv
  have h2 : wfL R vs := (key (fun x => match x with | .tmp t => pure (a.tmps.getD t undef) | .cell q t => do loadVar t (← asAddr (a.tmps.getD q undef))) (fun _ => rfl) (fun _ _ => rfl)).2
  constructor
  · unfold results
    rw [Sem.run_bind, Array.mapM_eq_mapM_toList, Sem.run_map, (key _ (fun _ => rfl) (fun _ _ => rfl)).1]
    simp only [Result.andThen_ok, Sem.run_pure]
    congr 1
    cases vs with
    | nil => rfl
    | cons v vs => cases vs with
      | nil => rfl
      | cons u vs => simp [resultOf, ren, renA, renL_eq]
  · cases vs with
    | nil => trivial
    | cons v vs => cases vs with
      | nil => exact h2.1
      | cons u vs => exact h2

/-- The marks of the ranges over functions are taken in at the return. -/
theorem lmarks_ok {fn : Func} {K : Ending → World → Prop} {tmps : Array Value} : ∀ (l : List Nat) {R : Map} {h h' : LH} {w : World}, HRel R h w.heap → (∀ i ∈ l, (R i).isSome = true) → lmarks h l = some h' →
    (∀ w', Goes R h w R h' w' → ∃ v, (results fn tmps).run P w' = .ok v w' ∧ K (.returned v) w') →
    LeavesInM Fence.wide 0 P fn tmps K (l.map (fun i => ({ target := .collected (R.b i), args := #[] } : Deferred))) .returning w
  | [], R, h, h', w, r, _, hv, hk => by
    simp only [lmarks, Option.some.injEq] at hv
    subst hv
    exact hk w (Goes.refl r)
  | i :: l, R, h, h', w, r, hi, hv, hk => by
    simp only [lmarks] at hv
    split at hv
    case h_2 => cases hv
    rename_i hg
    obtain ⟨h1, h2, h3⟩ := r.ok i _ hg
    obtain ⟨w1, hr, hgo⟩ := setObj_ok (P := P) r hg h2 (fun _ _ _ e => by cases e) (o' := .obj (.deferred none)) (x' := .deferred none) ⟨rfl, trivial⟩
    refine ⟨by simp, .inl ⟨R.b i, w1, rfl, ?_, ?_⟩⟩
    · have hget : (getObj (R.b i)).run P w = .ok (.deferred (some [])) w := run_getObj_eq h2 (fun _ _ _ e => by cases e)
      simp only [Instr.takeDeferred, Sem.run_bind, hget, Result.andThen_ok, hr, Sem.run_pure]
    · exact lmarks_ok l hgo.rel (fun j hj => hi j (by simp [hj])) hv (fun w' hg' => hk w' (hgo.trans hg'))
end
end Go.Proofs.YtedfhallhpkkhaaGreatDoor.X
/- What the local run says is what the model does: code, rounds of ranges over functions, calls; and so the whole run. Any program. -/
namespace Go.Proofs.YtedfhallhpkkhaaGreatDoor.X
open Go Go.RowKit

abbrev AnyF := (Task → Option Res) → Array Oper → LAct → LH → Option (LAct × LH)
/-- A region that draws its order, whatever way it is run locally, ends so in every order. -/
def AnyOk (P : Program) (c : Ctx) (any : AnyF) : Prop :=
  ∀ ih, SoundAll P c ih → ∀ ops la h la' h', any ih ops la h = some (la', h') → ∀ R a w rr id Q, HRel R h w.heap → ARel R la a → Base c R h w →
    (∀ R' a' w', Goes R h w R' h' w' → ARel R' la' a' → Q .normal a' w') → (Code.region id ops true).wpIn (fen rr) 0 P Q a w

theorem loopAt_get {h : LH} {i : Nat} {l : LLoop} (hl : loopAt h i = some l) : h.get i = some (.loop l) := by
  unfold loopAt at hl
  split at hl
  · rename_i l' hg
    simp only [Option.some.injEq] at hl
    subst hl
    exact hg
  · cases hl
theorem getLoop_ok {P : Program} {R : Map} {h : LH} {w : World} (r : HRel R h w.heap) {i : Nat} {l : LLoop} (hl : loopAt h i = some l) :
    ∃ f ta, (Instr.getLoop (R.b i)).run P w = .ok { state := l.state, pending := l.pending, fn := f, tmps := ta, params := l.params, assign := l.assign, body := l.body, defers := R.b l.defers } w ∧
      w.heap[R.b i]? = some (.loop { state := l.state, pending := l.pending, fn := f, tmps := ta, params := l.params, assign := l.assign, body := l.body, defers := R.b l.defers }) ∧ TRel R l.tmps l.n ta ∧ (R l.defers).isSome = true := by
  obtain ⟨_, f, ta, h1, h2, h3⟩ := r.ok i _ (loopAt_get hl)
  refine ⟨f, ta, ?_, h1, h2, h3⟩
  have := run_getObj_eq (P := P) h1 (fun _ _ _ e => by cases e)
  simp only [Instr.getLoop, Sem.run_bind, this, Result.andThen_ok, Sem.run_pure]
/-- The loop's record is written with another state. -/
theorem setLoop_ok {P : Program} {R : Map} {h : LH} {w : World} (r : HRel R h w.heap) {i : Nat} {l l' : LLoop} (hl : loopAt h i = some l) {f : FuncId} {ta : Array Value}
    (hx : w.heap[R.b i]? = some (.loop { state := l.state, pending := l.pending, fn := f, tmps := ta, params := l.params, assign := l.assign, body := l.body, defers := R.b l.defers }))
    (ht : TRel R l.tmps l.n ta) (hd : (R l.defers).isSome = true) (h1 : l'.tmps = l.tmps) (h2 : l'.n = l.n) (h3 : l'.defers = l.defers) :
    ∃ w', (setObj (R.b i) (.loop { state := l'.state, pending := l'.pending, fn := f, tmps := ta, params := l'.params, assign := l'.assign, body := l'.body, defers := R.b l.defers })).run P w = .ok () w' ∧ Goes R h w R (h.put i (.loop l')) w' := by
  refine setObj_ok r (loopAt_get hl) hx (fun _ _ _ e => by cases e) ?_
  exact ⟨f, ta, by rw [h3], by rw [h1, h2]; exact ht, by rw [h3]; exact hd⟩

theorem roMap {R R' : Map} (h : R.ext R') {ro : Option Nat} (hr : ∀ l, ro = some l → (R l).isSome = true) : ro.map R'.b = ro.map R.b := by
  cases ro with
  | none => rfl
  | some l => simp [Map.ext_b h (hr l rfl)]
theorem roSome {R R' : Map} (h : R.ext R') {ro : Option Nat} (hr : ∀ l, ro = some l → (R l).isSome = true) : ∀ l, ro = some l → (R' l).isSome = true := fun l hl => Map.ext_isSome h (hr l hl)

theorem CodePost.before {R R1 : Map} {h h1 : LH} {w w1 : World} {e : LExit} {a' : LAct} {h' : LH} {er : Exit} {ar' : Act} {w' : World} (g : Goes R h w R1 h1 w1) (k : CodePost R1 h1 w1 e a' h' er ar' w') : CodePost R h w e a' h' er ar' w' := by
  obtain ⟨h2, R', h3, h4⟩ := k
  exact ⟨h2, R', g.trans h3, h4⟩

section
variable {P : Program} {c : Ctx} {orc : Orc} {ih : Task → Option Res} {any : AnyF}
theorem Sound.code_of {ro : Option Nat} {k : Code} {a : LAct} {h : LH} {r : Res} (hs : Sound P c (.code ro k a h) r) : ∃ e a' h', r = .code e a' h' := by
  cases r with
  | code e a' h' => exact ⟨e, a', h', rfl⟩
  | val v h' => exact hs.elim

theorem lcode_ok (hs : SoundAll P c ih) (ho : OrcOk P c orc) (hany : AnyOk P c any) {ro : Option Nat} {k : Code} {la : LAct} {h : LH} {res : Res} (hv : lcode P orc ih any ro k la h = some res) : Sound P c (.code ro k la h) res := by
  cases k with
  | skip =>
    simp only [lcode, Option.some.injEq] at hv
    subst hv
    exact fun R a w r ra b hr => wpIn_skip ⟨rfl, R, Goes.refl r, ra⟩
  | label l =>
    simp only [lcode, Option.some.injEq] at hv
    subst hv
    exact fun R a w r ra b hr => wpIn_label ⟨rfl, R, Goes.refl r, ra⟩
  | ret =>
    simp only [lcode, Option.some.injEq] at hv
    subst hv
    exact fun R a w r ra b hr => wpIn_ret ⟨rfl, R, Goes.refl r, ra⟩
  | exit id =>
    simp only [lcode, Option.some.injEq] at hv
    subst hv
    exact fun R a w r ra b hr => wpIn_exit ⟨rfl, R, Goes.refl r, ra⟩
  | region id ops draw =>
    simp only [lcode] at hv
    split at hv
    case h_2 => cases hv
    rename_i la' h' hr'
    simp only [Option.some.injEq] at hv
    subst hv
    intro R a w r ra b hr
    cases draw with
    | true =>
      simp only [if_true] at hr'
      exact hany ih hs ops la h la' h' hr' R a w _ id _ r ra b (fun R' a' w' hg ra' => ⟨rfl, R', hg, ra'⟩)
    | false =>
      simp only [Bool.false_eq_true, if_false] at hr'
      exact wpIn_region (lops_ok hs ho _ r ra b hr' (fun R' a' w' hg ra' => ⟨rfl, R', hg, ra'⟩))
  | seq x y =>
    simp only [lcode] at hv
    split at hv
    · rename_i a1 h1 hx
      have hsx := hs _ _ hx
      obtain ⟨e, a', h', rfl⟩ := (hs _ _ hv).code_of
      have hsy := hs _ _ hv
      intro R a w r ra b hr
      refine wpIn_seq (wpIn_mono (hsx R a w r ra b hr).wp ?_)
      rintro er a1r w1 ⟨rfl, R1, hg, ra1⟩
      have hy := (hsy R1 a1r w1 hg.rel ra1 (b.goes hg) (roSome hg.ext hr)).wp
      rw [roMap hg.ext hr] at hy
      exact wpIn_mono hy (fun er ar' w' hp => hp.before hg)
    · rename_i hx
      have hsx := hs _ _ hv
      obtain ⟨e, a', h', rfl⟩ := hsx.code_of
      intro R a w r ra b hr
      refine wpIn_seq (wpIn_mono (hsx R a w r ra b hr).wp ?_)
      rintro er a1r w1 ⟨rfl, R1, hg, ra1⟩
      cases e with
      | normal => exact absurd hv (hx a' h')
      | exit id => exact ⟨rfl, R1, hg, ra1⟩
      | ret => exact ⟨rfl, R1, hg, ra1⟩
  | cond x k1 k2 =>
    simp only [lcode] at hv
    split at hv
    case h_2 => cases hv
    rename_i t ht
    have hsx := hs _ _ hv
    obtain ⟨e, a', h', rfl⟩ := hsx.code_of
    intro R a w r ra b hr
    have hc : a.eval x = .bool t := (lev_ok r.glob.1 ra x _ ht).1
    refine wpIn_cond hc ?_
    have := (hsx R a w r ra b hr).wp
    cases t <;> exact this
  | block id k =>
    simp only [lcode] at hv
    split at hv
    · rename_i j a1 h1 hx
      have hsx := hs _ _ hx
      by_cases hj : j = id
      · rw [if_pos hj] at hv
        simp only [Option.some.injEq] at hv
        subst hv
        intro R a w r ra b hr
        refine wpIn_block (wpIn_mono (hsx R a w r ra b hr).wp ?_)
        rintro er a1r w1 ⟨rfl, R1, hg, ra1⟩
        show (if j = id then _ else _)
        rw [if_pos hj]
        exact ⟨rfl, R1, hg, ra1⟩
      · rw [if_neg hj] at hv
        simp only [Option.some.injEq] at hv
        subst hv
        intro R a w r ra b hr
        refine wpIn_block (wpIn_mono (hsx R a w r ra b hr).wp ?_)
        rintro er a1r w1 ⟨rfl, R1, hg, ra1⟩
        show (if j = id then _ else _)
        rw [if_neg hj]
        exact ⟨rfl, R1, hg, ra1⟩
    · rename_i hx
      have hsx := hs _ _ hv
      obtain ⟨e, a', h', rfl⟩ := hsx.code_of
      intro R a w r ra b hr
      refine wpIn_block (wpIn_mono (hsx R a w r ra b hr).wp ?_)
      rintro er a1r w1 ⟨rfl, R1, hg, ra1⟩
      cases e with
      | normal => exact ⟨rfl, R1, hg, ra1⟩
      | exit id => exact absurd hv (hx id a' h')
      | ret => exact ⟨rfl, R1, hg, ra1⟩
  | loop k =>
    simp only [lcode] at hv
    split at hv
    · rename_i a1 h1 hx
      have hsx := hs _ _ hx
      have hsl := hs _ _ hv
      obtain ⟨e, a', h', rfl⟩ := hsl.code_of
      intro R a w r ra b hr
      refine loopIn_round (wpIn_mono (hsx R a w r ra b hr).wp ?_)
      rintro er a1r w1 ⟨rfl, R1, hg, ra1⟩
      have hl : loopIn (fen (ro.map R1.b)) 0 P k (CodePost R1 h1 w1 e a' h') a1r w1 := hsl R1 a1r w1 hg.rel ra1 (b.goes hg) (roSome hg.ext hr)
      rw [roMap hg.ext hr] at hl
      intro bb todo cs q1 q2 q3
      obtain ⟨e2, a2, w2, hp, harr⟩ := hl bb todo cs q1 q2 q3
      exact ⟨e2, a2, w2, hp.before hg, harr⟩
    · rename_i hx
      have hsx := hs _ _ hv
      obtain ⟨e, a', h', rfl⟩ := hsx.code_of
      intro R a w r ra b hr
      refine loopIn_round (wpIn_mono (hsx R a w r ra b hr).wp ?_)
      rintro er a1r w1 ⟨rfl, R1, hg, ra1⟩
      cases e with
      | normal => exact absurd hv (hx a' h')
      | exit id => exact ⟨rfl, R1, hg, ra1⟩
      | ret => exact ⟨rfl, R1, hg, ra1⟩
  | rangeFunc g ps assign body =>
    simp only [lcode] at hv
    split at hv
    case h_2 => cases hv
    rename_i f fs cs hgv
    split at hv
    case h_2 => cases hv
    rename_i h1 d mark hent
    split at hv
    case isFalse => cases hv
    rename_i hpf
    split at hv
    case h_2 => cases hv
    rename_i v3 h3 hcall
    split at hv
    case h_2 => cases hv
    rename_i lp hlp
    split at hv
    case isTrue => cases hv
    rename_i hbusy
    have hsc := hs _ _ hcall
    -- what the pending jump comes to
    have hjump : ∃ e, res = .code e { la with marks := mark ++ la.marks } (h3.put h1.next (.loop { lp with state := .exhausted })) ∧ ((lp.pending = none ∧ e = .normal) ∨ (lp.pending = some .ret ∧ e = .ret) ∨ ∃ id, lp.pending = some (.exit id) ∧ e = .exit id) := by
      split at hv
      · rename_i hp; simp only [Option.some.injEq] at hv; exact ⟨.normal, hv.symm, .inl ⟨hp, rfl⟩⟩
      · rename_i hp; simp only [Option.some.injEq] at hv; exact ⟨.ret, hv.symm, .inr (.inl ⟨hp, rfl⟩)⟩
      · rename_i id hp; simp only [Option.some.injEq] at hv; exact ⟨.exit id, hv.symm, .inr (.inr ⟨id, hp, rfl⟩)⟩
      · cases hv
    obtain ⟨e, rfl, hpend⟩ := hjump
    intro R a w r ra b hr
    obtain ⟨hg1, hg2⟩ := lev_ok r.glob.1 ra g _ hgv
    simp only [wfv] at hg2
    refine wpIn_rangeFunc ?_
    intro fnid _
    -- the block for the deferred calls
    have henter1 : ∃ R1 w1, Goes R h w R1 h1 w1 ∧ (R1 d).isSome = true ∧ (∀ i ∈ mark, (R1 i).isSome = true) ∧
        ∀ l w2, (newObj (.loop { state := .ready, pending := none, fn := fnid, tmps := a.tmps, params := ps, assign, body, defers := R1.b d })).run P w1 = .ok l w2 →
          (Instr.enterLoop fnid a.tmps ps assign body (ro.map R.b)).run P w = .ok (l, mark.map (fun i => ({ target := .collected (R1.b i), args := #[] } : Deferred))) w2 := by
      cases ro with
      | none =>
        simp only [Option.some.injEq, Prod.mk.injEq] at hent
        obtain ⟨rfl, rfl, rfl⟩ := hent
        obtain ⟨R1, w1, q1, q2, q3⟩ := newObj_ok (P := P) (o := .obj (.deferred (some []))) (x := .deferred (some [])) r ⟨rfl, trivial⟩
        refine ⟨R1, w1, q3, q2, fun i hi => by simp only [List.mem_singleton] at hi; rw [hi]; exact q2, fun l w2 hl => ?_⟩
        simp only [Instr.enterLoop, Option.map_none, Sem.run_bind, q1, Result.andThen_ok, Sem.run_pure, hl, List.map_cons, List.map_nil]
      | some l0 =>
        simp only at hent
        split at hent
        case h_2 => cases hent
        rename_i lr hlr
        simp only [Option.some.injEq, Prod.mk.injEq] at hent
        obtain ⟨rfl, rfl, rfl⟩ := hent
        obtain ⟨f', ta', q1, q2, q3, q4⟩ := getLoop_ok (P := P) r hlr
        refine ⟨R, w, Goes.refl r, q4, (fun i hi => by cases hi), fun l w2 hl => ?_⟩
        simp only [Instr.enterLoop, Option.map_some, Sem.run_bind, q1, Result.andThen_ok, Sem.run_pure, hl, List.map_nil]
    obtain ⟨R1, w1, G1, hd, hmk, hrun1⟩ := henter1
    have ra1 := ra.ext G1.ext
    -- the record
    let lp0 : LLoop := { state := .ready, pending := none, tmps := la.tmps, n := la.n, params := ps, assign, body, defers := d }
    have hext2 : R1.ext (R1.put h1.next w1.heap.size 0) := Map.put_ext (G1.rel.fresh _ (Nat.le_refl _))
    obtain ⟨R2, w2, q1, q2, G2⟩ := newObj_ok (P := P) (o := .loop lp0) (x := .loop { state := .ready, pending := none, fn := fnid, tmps := a.tmps, params := ps, assign, body, defers := R1.b d }) G1.rel
      ⟨fnid, a.tmps, by rw [Map.ext_b hext2 hd], ra1.tmps.ext hext2, Map.ext_isSome hext2 hd⟩
    have G12 := G1.trans G2
    refine ⟨R2.b h1.next, mark.map (fun i => ({ target := .collected (R1.b i), args := #[] } : Deferred)), w2, { target := .fn (.func f) (renA R cs), args := renA R fs ++ #[.func (.yield (R2.b h1.next)) #[] #[]] }, w2, f,
      (renA R fs ++ #[.func (.yield (R2.b h1.next)) #[] #[]]) ++ renA R cs, w2, ?_, ?_, fun _ _ => trivial, ?_, fun hdd => by simp [fen, Fence.wide] at hdd, ?_⟩
    · -- enterLoop
      exact hrun1 _ _ q1
    · -- resolve
      have hm : (#[Operand.const (Value.func (.yield (R2.b h1.next)) #[] #[])] : Array Operand).map a.eval = #[Value.func (.yield (R2.b h1.next)) #[] #[]] := by simp [Act.eval]
      simp only [resolve, rangeCall, hg1, ren, renFn, Deferred.ofValue, hm]
      rfl
    · -- the call
      have hp := hpf
      unfold isPlainFn at hp
      show (callFunc f _).run P w2 = _
      unfold callFunc
      split at hp
      · rename_i fn hf
        simp only [Bool.and_eq_true, Bool.not_eq_true'] at hp
        have hnone : fn.body.isNone = false := by cases hb : fn.body <;> simp_all
        simp only [Sem.run_bind, run_program, Result.andThen_ok, hf, hp.1, hnone, Bool.false_eq_true, if_false, Sem.run_pure]
      · cases hp
    · -- what lies behind it
      have hwf : wfL R2 (fs.toList ++ [Value.func (.yield h1.next) #[] #[]] ++ cs.toList) := by
        rw [wfL_append, wfL_append]
        exact ⟨⟨wfA_toList.1 (renA_ext G12.ext fs hg2.2.1).2, ⟨q2, trivial, trivial⟩, trivial⟩, wfA_toList.1 (renA_ext G12.ext cs hg2.2.2).2⟩
      have hcl := hsc R2 w2 G2.rel hwf (b.goes G12)
      have hargs : ((fs.toList ++ [Value.func (.yield h1.next) #[] #[]] ++ cs.toList).map (ren R2)).toArray = (renA R fs ++ #[.func (.yield (R2.b h1.next)) #[] #[]]) ++ renA R cs := by
        rw [← (renA_ext G12.ext fs hg2.2.1).1, ← (renA_ext G12.ext cs hg2.2.2).1, renA_eq, renA_eq]
        apply Array.ext'
        simp [ren, renFn, renA, renL]
      rw [hargs] at hcl
      refine CallsIn.mono (F := fen (ro.map R.b)) hcl ?_
      rintro er w3 ⟨R3, rfl, hw3, G3⟩
      have G123 := G12.trans G3
      obtain ⟨f', ta', p1, p2, p3, p4⟩ := getLoop_ok (P := P) G3.rel hlp
      have hb3 : R3.b h1.next = R2.b h1.next := Map.ext_b G3.ext q2
      obtain ⟨w4, s1, G4⟩ := setLoop_ok (P := P) (l' := { lp with state := .exhausted }) G3.rel hlp p2 p3 p4 rfl rfl rfl
      rw [hb3] at p1 s1
      have hnb : (lp.state == LoopState.busy) = false := by simpa using hbusy
      refine ⟨lp.pending, w4, ?_, ?_⟩
      · simp only [Instr.endLoop, Sem.run_bind, p1, Result.andThen_ok, hnb, Bool.false_eq_true, if_false]
        simp only [s1, Result.andThen_ok, Sem.run_pure]
      · have Gall := G123.trans G4
        have raf : ARel R3 { la with marks := mark ++ la.marks } { a with defers := mark.map (fun i => ({ target := .collected (R1.b i), args := #[] } : Deferred)) ++ a.defers } := by
          have ra3 := ra.ext G123.ext
          have he13 : R1.ext R3 := Map.ext_trans G2.ext G3.ext
          refine ⟨ra3.tmps, ?_, fun i hi => ?_⟩
          · simp only [List.map_append]
            rw [ra3.defers]
            congr 1
            apply List.map_congr_left
            intro i hi
            rw [Map.ext_b he13 (hmk i hi)]
          · rcases List.mem_append.1 hi with hi | hi
            · exact Map.ext_isSome he13 (hmk i hi)
            · exact ra3.marks i hi
        rcases hpend with ⟨hp, rfl⟩ | ⟨hp, rfl⟩ | ⟨id, hp, rfl⟩
        · rw [hp] at Gall ⊢; exact ⟨rfl, R3, Gall, raf⟩
        · rw [hp] at Gall ⊢; exact wpIn_ret ⟨rfl, R3, Gall, raf⟩
        · rw [hp] at Gall ⊢; exact wpIn_exit ⟨rfl, R3, Gall, raf⟩
  | scope k => simp [lcode] at hv
  | goto l => simp [lcode] at hv
  | refuse w => simp [lcode] at hv

theorem lassign_ok {R : Map} : ∀ (ds : List Tmp) (vs : List Value) {t t' : T Value} {n : Nat} {ta : Array Value}, TRel R t n ta → wfL R vs → lassign t n ds vs = some t' →
    ds.length = vs.length ∧ TRel R t' n ((ds.zip (vs.map (ren R))).foldl (fun tmps p => tmps.setIfInBounds p.1 p.2) ta)
  | [], [], t, t', n, ta, ht, _, h => by simp only [lassign, Option.some.injEq] at h; subst h; exact ⟨rfl, ht⟩
  | [], _ :: _, _, _, _, _, _, _, h => by simp [lassign] at h
  | _ :: _, [], _, _, _, _, _, _, h => by simp [lassign] at h
  | d :: ds, v :: vs, t, t', n, ta, ht, hw, h => by
    simp only [lassign] at h
    split at h
    case isFalse => cases h
    rename_i hd
    have h1 : TRel R (t.set d (some v)) n (ta.setIfInBounds d (ren R v)) := by
      obtain ⟨g1, g2, g3⟩ := ht
      refine ⟨by simpa using g1, fun k hk => ?_, fun k u hk => ?_⟩
      · rw [T.get_set]
        by_cases he : k = d
        · subst he
          simp only [if_true, Option.getD_some]
          rw [Array.getElem?_setIfInBounds_self_of_lt (by omega)]
        · rw [if_neg he, Array.getElem?_setIfInBounds_ne (fun e => he e.symm)]
          exact g2 k hk
      · rw [T.get_set] at hk
        by_cases he : k = d
        · subst he
          simp only [if_true, Option.some.injEq] at hk
          subst hk
          exact ⟨hd, hw.1⟩
        · rw [if_neg he] at hk
          exact g3 k u hk
    obtain ⟨h2, h3⟩ := lassign_ok ds vs h1 hw.2 h
    exact ⟨by simp [h2], h3⟩
theorem endRound_ok {R : Map} {h : LH} {w : World} (r : HRel R h w.heap) {l : Nat} {lp : LLoop} (hl : loopAt h l = some lp) (jump : Option Code) :
    ∃ w', (Instr.endRound (R.b l) jump).run P w = .ok (.bool jump.isNone) w' ∧ Goes R h w R (h.put l (.loop { lp with state := if jump.isNone then .ready else .done, pending := jump })) w' := by
  obtain ⟨f, ta, p1, p2, p3, p4⟩ := getLoop_ok (P := P) r hl
  obtain ⟨w', s1, g⟩ := setLoop_ok (P := P) (l' := { lp with state := if jump.isNone then .ready else .done, pending := jump }) r hl p2 p3 p4 rfl rfl rfl
  refine ⟨w', ?_, g⟩
  simp only [Instr.endRound, Sem.run_bind, p1, Result.andThen_ok]
  simp only [s1, Result.andThen_ok, Sem.run_pure]

theorem lround_ok (hs : SoundAll P c ih) {l : Nat} {args : List Value} {h : LH} {res : Res} (hv : lround ih l args h = some res) : Sound P c (.round l args h) res := by
  unfold lround at hv
  split at hv
  case h_2 => cases hv
  rename_i lp hlp
  split at hv
  case h_2 => cases hv
  rename_i t ht
  split at hv
  case h_2 => cases hv
  rename_i a1 h1 hassign
  split at hv
  case h_2 => cases hv
  rename_i lp1 hlp1
  split at hv
  case h_2 => cases hv
  rename_i hready
  split at hv
  case h_2 => cases hv
  rename_i e a2 h2 hbody
  split at hv
  case h_2 => cases hv
  rename_i lp2 hlp2
  have hsa := hs _ _ hassign
  have hsb := hs _ _ hbody
  -- what the round hands back
  have hres : ∃ b st pd, res = .val (.bool b) (h2.put l (.loop { lp2 with state := st, pending := pd })) ∧
      ((e = .normal ∧ b = true ∧ st = .ready ∧ pd = none) ∨ (e = .ret ∧ b = false ∧ st = .done ∧ pd = some .ret) ∨ ∃ id, e = .exit id ∧ b = false ∧ st = .done ∧ pd = some (.exit id)) := by
    cases e with
    | normal => simp only [Option.some.injEq] at hv; exact ⟨true, .ready, none, hv.symm, .inl ⟨rfl, rfl, rfl, rfl⟩⟩
    | ret => simp only [Option.some.injEq] at hv; exact ⟨false, .done, some .ret, hv.symm, .inr (.inl ⟨rfl, rfl, rfl, rfl⟩)⟩
    | exit id => simp only [Option.some.injEq] at hv; exact ⟨false, .done, some (.exit id), hv.symm, .inr (.inr ⟨id, rfl, rfl, rfl, rfl⟩)⟩
  obtain ⟨bb, st, pd, rfl, hcase⟩ := hres
  intro R w r hw b hl
  obtain ⟨f, ta, p1, p2, p3, p4⟩ := getLoop_ok (P := P) r hlp
  obtain ⟨hlen, htr⟩ := lassign_ok lp.params.toList args p3 hw ht
  let tr := (lp.params.toList.zip (args.map (ren R))).foldl (fun tmps p => tmps.setIfInBounds p.1 p.2) ta
  refine ⟨f, tr, lp.assign, lp.body, ?_, ?_⟩
  · have hsz : ¬ ((args.map (ren R)).toArray.size ≠ lp.params.size) := by simp; simpa using hlen.symm
    simp only [Instr.yield, Sem.run_bind, p1, Result.andThen_ok, if_neg hsz, Sem.run_pure]
    congr 2
    simp only [tr, ← Array.foldl_toList, Array.toList_zip]
  · refine roundIn_of_wpIn (F := Fence.wide) trivial ?_
    have ra0 : ARel R { tmps := t, n := lp.n, marks := [] } { tmps := tr, defers := [] } := ⟨htr, rfl, fun i hi => by cases hi⟩
    have hA := (hsa R { tmps := tr, defers := [] } w r ra0 b (fun l' h' => by simp only [Option.some.injEq] at h'; subst h'; exact hl)).wp
    refine wpIn_mono hA ?_
    rintro er a1r w1 ⟨rfl, R1, G1, ra1⟩
    have hl1 := Map.ext_isSome G1.ext hl
    have hb1 : R1.b l = R.b l := Map.ext_b G1.ext hl
    obtain ⟨f1, ta1, q1, q2, q3, q4⟩ := getLoop_ok (P := P) G1.rel hlp1
    obtain ⟨w2, s1, G2⟩ := setLoop_ok (P := P) (l' := { lp1 with state := .busy }) G1.rel hlp1 q2 q3 q4 rfl rfl rfl
    rw [hb1] at q1 s1
    refine ⟨w2, ?_, ?_⟩
    · simp only [Instr.beginRound, Sem.run_bind, q1, Result.andThen_ok]
      simp only [s1, Result.andThen_ok, hready, Sem.run_pure]
    · have G12 := G1.trans G2
      have hB := (hsb R1 a1r w2 G2.rel ra1 (b.goes G12) (fun l' h' => by simp only [Option.some.injEq] at h'; subst h'; exact hl1)).wp
      simp only [Option.map_some, hb1] at hB
      refine wpIn_mono hB ?_
      rintro er a2r w3 ⟨rfl, R3, G3, ra3⟩
      have G123 := G12.trans G3
      have hb3 : R3.b l = R.b l := Map.ext_b G123.ext hl
      have fin : ∀ jump : Option Code, (∃ w', (Instr.endRound (R.b l) jump).run P w3 = .ok (.bool jump.isNone) w' ∧ Goes R3 h2 w3 R3 (h2.put l (.loop { lp2 with state := if jump.isNone then .ready else .done, pending := jump })) w') := by
        intro jump
        have := endRound_ok (P := P) G3.rel hlp2 jump
        rwa [hb3] at this
      rcases hcase with ⟨rfl, rfl, rfl, rfl⟩ | ⟨rfl, rfl, rfl, rfl⟩ | ⟨id, rfl, rfl, rfl, rfl⟩
      · obtain ⟨w4, e1, G4⟩ := fin none
        exact ⟨_, w4, e1, R3, rfl, trivial, G123.trans G4⟩
      · obtain ⟨w4, e1, G4⟩ := fin (some .ret)
        exact ⟨_, w4, e1, R3, rfl, trivial, G123.trans G4⟩
      · obtain ⟨w4, e1, G4⟩ := fin (some (.exit id))
        exact ⟨_, w4, e1, R3, rfl, trivial, G123.trans G4⟩

theorem lenter_ok {R : Map} {n : Nat} : ∀ (l : List Value) (i : Nat) {t t' : T Value}, lenter n i l t = some t' → wfL R l → (∀ k v, t.get k = some v → k < i ∧ k < n ∧ wfv R v) →
    (l = [] ∨ i + l.length ≤ n) ∧ (∀ k, t'.get k = if i ≤ k ∧ k < i + l.length then l[k - i]? else t.get k) ∧ (∀ k v, t'.get k = some v → k < n ∧ wfv R v)
  | [], i, t, t', h, _, ht => by
    simp only [lenter, Option.some.injEq] at h
    subst h
    exact ⟨.inl rfl, fun k => by rw [if_neg (by simp)], fun k v hk => ⟨(ht k v hk).2.1, (ht k v hk).2.2⟩⟩
  | v :: l, i, t, t', h, hw, ht => by
    simp only [lenter] at h
    split at h
    case isFalse => cases h
    rename_i hi
    obtain ⟨h1, h2, h3⟩ := lenter_ok l (i + 1) h hw.2 (fun k u hk => by
      rw [T.get_set] at hk
      by_cases he : k = i
      · subst he
        simp only [if_true, Option.some.injEq] at hk
        subst hk
        exact ⟨by omega, hi, hw.1⟩
      · rw [if_neg he] at hk
        obtain ⟨g1, g2, g3⟩ := ht k u hk
        exact ⟨by omega, g2, g3⟩)
    refine ⟨.inr ?_, fun k => ?_, h3⟩
    · rcases h1 with rfl | h1
      · simp; omega
      · simp only [List.length_cons]; omega
    · rw [h2 k, T.get_set]
      simp only [List.length_cons]
      by_cases hk : i + 1 ≤ k ∧ k < i + 1 + l.length
      · rw [if_pos hk, if_pos (by omega)]
        rw [show k - i = (k - (i + 1)) + 1 by omega]
        simp
      · rw [if_neg hk]
        by_cases he : k = i
        · subst he
          rw [if_pos rfl, if_pos (by omega)]
          simp
        · rw [if_neg he, if_neg (by omega)]

theorem lcallF_ok (hs : SoundAll P c ih) {f : FuncId} {args : List Value} {h : LH} {res : Res} (hv : lcallF P ih f args h = some res) : Sound P c (.call f args h) res := by
  unfold lcallF at hv
  split at hv
  case h_2 => cases hv
  rename_i fn hf
  split at hv
  case h_2 => cases hv
  rename_i k hk
  split at hv
  case h_2 => cases hv
  rename_i t ht
  split at hv
  case h_2 => cases hv
  rename_i e a' h' hcode
  have hsc := hs _ _ hcode
  have hout : (e = .normal ∨ e = .ret) ∧ ∃ h'' vs, lmarks h' a'.marks = some h'' ∧ lresults P a' h'' fn.results.toList = some vs ∧ res = .val (resultOf vs) h'' := by
    split at hv
    · cases hv
    · rename_i hne
      split at hv
      case h_2 => cases hv
      rename_i h'' hm
      refine ⟨by cases e with | normal => exact .inl rfl | ret => exact .inr rfl | exit id => exact absurd rfl (hne id), h'', ?_⟩
      split at hv
      · rename_i v hr
        simp only [Option.some.injEq] at hv
        exact ⟨[v], hm, hr, hv.symm⟩
      · rename_i vs hne1 hr
        simp only [Option.some.injEq] at hv
        refine ⟨vs, hm, hr, ?_⟩
        rw [← hv]
        congr 1
        unfold resultOf
        split
        · exact absurd rfl (hne1 _)
        · rfl
      · cases hv
  obtain ⟨he, h'', vs, hm, hr, rfl⟩ := hout
  intro R w r hw b
  obtain ⟨g1, g2, g3⟩ := lenter_ok (R := R) args 0 ht hw (fun k v hk => by cases hk)
  have hlen : args.length ≤ fn.ntmps := by rcases g1 with rfl | g1 <;> simp_all
  have ra0 : ARel R { tmps := t, n := fn.ntmps, marks := [] } { tmps := (args.map (ren R)).toArray ++ Array.replicate (fn.ntmps - (args.map (ren R)).toArray.size) undef, defers := [] } := by
    refine ⟨⟨by simp; omega, fun q hq => ?_, g3⟩, rfl, fun i hi => by cases hi⟩
    rw [g2 q]
    by_cases hqa : q < args.length
    · rw [if_pos (by omega), Array.getElem?_append_left (by simpa using hqa)]
      simp [hqa]
    · rw [if_neg (by omega), Array.getElem?_append_right (by simp; omega)]
      have hq' : q < fn.ntmps := hq
      have : q - args.length < fn.ntmps - args.length := by omega
      simp [T.get, this]
      rfl
  refine callsIn_of_wp_marks hf hk trivial (wpIn_mono (hsc R _ w r ra0 b (fun l hl => by cases hl)).wp ?_)
  rintro er ar' w' ⟨rfl, R', G, ra'⟩
  have hL := lmarks_ok (P := P) (fn := fn) (K := CallPost R h w (resultOf vs) h'') (tmps := ar'.tmps) a'.marks G.rel ra'.marks hm (fun w2 g => by
    obtain ⟨e1, e2⟩ := results_ok (P := P) g.rel ra' hr
    exact ⟨_, e1, R', rfl, e2, G.trans g⟩)
  rw [← ra'.defers] at hL
  rcases he with rfl | rfl
  · exact hL
  · exact hL

theorem lstep_ok (hs : SoundAll P c ih) (ho : OrcOk P c orc) (hany : AnyOk P c any) : SoundAll P c (lstep P orc ih any) := by
  intro t r hr
  cases t with
  | code ro k a h => exact lcode_ok hs ho hany hr
  | call f args h => exact lcallF_ok hs hr
  | round l args h => exact lround_ok hs hr
end
/-- THE LOCAL RUN IS SOUND. -/
theorem lrun_ok {P : Program} {c : Ctx} {orc : Orc} {any : AnyF} (ho : OrcOk P c orc) (hany : AnyOk P c any) : ∀ n, SoundAll P c (lrun P orc any n)
  | 0 => fun t r hr => by cases hr
  | n + 1 => lstep_ok (lrun_ok ho hany n) ho hany
end Go.Proofs.YtedfhallhpkkhaaGreatDoor.X
/- Regions that draw: plain facts on the plan and on the records of the local run. Any program. -/
namespace Go.Proofs.YtedfhallhpkkhaaGreatDoor.X
open Go Go.RowKit

theorem resT_get (t : T Value) : ∀ (ts : List Tmp) (k : Nat), (resT t ts).get k = if k ∈ ts then t.get k else none
  | [], k => by simp only [List.not_mem_nil, if_false]; rfl
  | x :: l, k => by
    have ih := resT_get t l k
    show (Option.rec (motive := fun _ => T Value) (resT t l) (fun v => T.set (resT t l) x (some v)) (T.get t x) : T Value).get k = _
    cases hx : t.get x with
    | none =>
      show (resT t l).get k = _
      rw [ih]
      by_cases hk : k = x
      · subst hk; simp [hx]
      · simp [hk]
    | some v =>
      show (T.set (resT t l) x (some v)).get k = _
      rw [T.get_set, ih]
      by_cases hk : k = x
      · subst hk; simp [hx]
      · simp [hk]

mutual
theorem idsOk_wf {R R' : Map} {f : Nat → Bool} (hf : ∀ x, (R x).isSome = true → f x = true → (R' x).isSome = true) : ∀ v : Value, wfv R v → idsOk f v = true → wfv R' v
  | .pointer (some a), hw, h => by simp only [wfv, idsOk] at hw h ⊢; exact ⟨hf _ hw.1 h, hw.2⟩
  | .slice (some a) _ _, hw, h => by simp only [wfv, idsOk] at hw h ⊢; exact ⟨hf _ hw.1 h, hw.2⟩
  | .map (some r), hw, h => by simp only [wfv, idsOk] at hw h ⊢; exact hf _ hw h
  | .func fn fs cs, hw, h => by
    simp only [wfv, idsOk, Bool.and_eq_true] at hw h ⊢
    refine ⟨?_, idsOkA_wf hf fs hw.2.1 h.2.1, idsOkA_wf hf cs hw.2.2 h.2.2⟩
    cases fn <;> simp_all [wfFn]
  | .iface t v, hw, h => by simp only [wfv, idsOk] at hw h ⊢; exact idsOk_wf hf v hw h
  | .agg cs, hw, h => by simp only [wfv, idsOk] at hw h ⊢; exact idsOkA_wf hf cs hw h
  | .tuple cs, hw, h => by simp only [wfv, idsOk] at hw h ⊢; exact idsOkA_wf hf cs hw h
  | .pointer none, _, _ => by simp [wfv]
  | .slice none _ _, _, _ => by simp [wfv]
  | .map none, _, _ => by simp [wfv]
  | .chan none, _, _ => by simp [wfv]
  | .chan (some _), hw, _ => by simp [wfv] at hw
  | .bool _, _, _ => by simp [wfv]
  | .int _ _, _, _ => by simp [wfv]
  | .float _ _, _, _ => by simp [wfv]
  | .complex _ _ _, _, _ => by simp [wfv]
  | .string _, _, _ => by simp [wfv]
  | .nilFunc, _, _ => by simp [wfv]
  | .nilIface, _, _ => by simp [wfv]
theorem idsOkA_wf {R R' : Map} {f : Nat → Bool} (hf : ∀ x, (R x).isSome = true → f x = true → (R' x).isSome = true) : ∀ a : Array Value, wfA R a → idsOkA f a = true → wfA R' a
  | ⟨l⟩, hw, h => by simp only [wfA, idsOkA] at hw h ⊢; exact idsOkL_wf hf l hw h
theorem idsOkL_wf {R R' : Map} {f : Nat → Bool} (hf : ∀ x, (R x).isSome = true → f x = true → (R' x).isSome = true) : ∀ l : List Value, wfL R l → idsOkL f l = true → wfL R' l
  | [], _, _ => trivial
  | v :: l, hw, h => by
    simp only [wfL, idsOkL, Bool.and_eq_true] at hw h ⊢
    exact ⟨idsOk_wf hf v hw.1 h.1, idsOkL_wf hf l hw.2 h.2⟩
end
theorem addrEq_eq {a b : Addr} (h : addrEq a b = true) : a = b := by
  obtain ⟨p, q, s⟩ := a
  obtain ⟨p', q', s'⟩ := b
  simp only [addrEq, Bool.and_eq_true, Nat.beq_eq] at h
  obtain ⟨⟨⟨h1, h2⟩, h3⟩, h4⟩ := h
  cases s <;> cases s' <;> simp_all
theorem bytes_ext {a b : ByteArray} (h : a.data.toList = b.data.toList) : a = b := by
  obtain ⟨⟨l⟩⟩ := a
  obtain ⟨⟨m⟩⟩ := b
  simp_all
mutual
theorem veq_eq : ∀ a b : Value, veq a b = true → a = b
  | .agg ⟨a⟩, b, h => by
    cases b with
    | agg c => obtain ⟨c⟩ := c; rw [veqL_eq a c (by simpa only [veq] using h)]
    | _ => simp [veq] at h
  | .tuple ⟨a⟩, b, h => by
    cases b with
    | tuple c => obtain ⟨c⟩ := c; rw [veqL_eq a c (by simpa only [veq] using h)]
    | _ => simp [veq] at h
  | .bool a, b, h => by cases b <;> simp_all [veq]
  | .int k a, b, h => by
    cases b with
    | int j c => simp only [veq, Bool.and_eq_true, intEqF_eq, beq_iff_eq] at h; rw [kindF_eq h.1, h.2]
    | _ => simp [veq] at h
  | .string a, b, h => by
    cases b with
    | string c => simp only [veq, beq_iff_eq] at h; rw [bytes_ext h]
    | _ => simp [veq] at h
  | .pointer (some a), b, h => by
    cases b with
    | pointer c => cases c with
      | none => simp [veq] at h
      | some c => simp only [veq] at h; rw [addrEq_eq h]
    | _ => simp [veq] at h
  | .pointer none, b, h => by
    cases b with
    | pointer c => cases c <;> simp_all [veq]
    | _ => simp [veq] at h
  | .slice (some a) _ _, b, h => by
    cases b with
    | slice c _ _ => cases c with
      | none => simp [veq] at h
      | some c => simp only [veq, Bool.and_eq_true, Nat.beq_eq] at h; rw [addrEq_eq h.1, h.2.1, h.2.2]
    | _ => simp [veq] at h
  | .slice none _ _, b, h => by
    cases b with
    | slice c _ _ => cases c with
      | some c => simp [veq] at h
      | none => simp only [veq, Bool.and_eq_true, Nat.beq_eq] at h; rw [h.1, h.2]
    | _ => simp [veq] at h
  | .map (some a), b, h => by
    cases b with
    | map c => cases c with
      | none => simp [veq] at h
      | some c => simp only [veq, Nat.beq_eq] at h; rw [h]
    | _ => simp [veq] at h
  | .map none, b, h => by
    cases b with
    | map c => cases c <;> simp_all [veq]
    | _ => simp [veq] at h
  | .nilFunc, b, h => by cases b <;> simp_all [veq]
  | .nilIface, b, h => by cases b <;> simp_all [veq]
  | .float _ _, b, h => by cases b <;> simp [veq] at h
  | .complex _ _ _, b, h => by cases b <;> simp [veq] at h
  | .chan _, b, h => by cases b <;> simp [veq] at h
  | .func _ _ _, b, h => by cases b <;> simp [veq] at h
  | .iface _ _, b, h => by cases b <;> simp [veq] at h
theorem veqL_eq : ∀ a b : List Value, veqL a b = true → a = b
  | [], [], _ => rfl
  | [], _ :: _, h => by simp [veqL] at h
  | _ :: _, [], h => by simp [veqL] at h
  | a :: l, b :: m, h => by
    simp only [veqL, Bool.and_eq_true] at h
    rw [veq_eq a b h.1, veqL_eq l m h.2]
end

/-! ### The records and the last activation -/
abbrev Ent := Nat × LAct × Value
def NRec.ent (r : NRec) : Ent := (r.i, r.la, r.v)
def DSeg.ent (s : DSeg) : Ent := (s.e, s.la, s.v)
def entsOf (ds : List DSeg) (last : List NRec) : List Ent := ds.flatMap (fun s => s.ns.map NRec.ent ++ [s.ent]) ++ last.map NRec.ent
def Puts (ops : Array Oper) : List Ent → LAct → LAct → Prop
  | [], la, laF => laF = la
  | e :: l, la, laF => e.2.1 = restr la (looksOf ops e.1) ∧ ∃ la1, la.put (dstOf ops e.1) e.2.2 = some la1 ∧ Puts ops l la1 laF
theorem Puts.append {ops : Array Oper} : ∀ {l m : List Ent} {la lb laF : LAct}, Puts ops l la lb → Puts ops m lb laF → Puts ops (l ++ m) la laF
  | [], m, la, lb, laF, h, h' => by cases h; exact h'
  | e :: l, m, la, lb, laF, ⟨h1, la1, h2, h3⟩, h' => ⟨h1, la1, h2, Puts.append h3 h'⟩
theorem put_get {la la1 : LAct} {dst : Option Tmp} {v : Value} (h : la.put dst v = some la1) : la1.n = la.n ∧ (∀ t, dst ≠ some t → la1.tmps.get t = la.tmps.get t) ∧ (∀ t, dst = some t → t < la.n ∧ la1.tmps.get t = some v) := by
  obtain ⟨t, n, m⟩ := la
  unfold LAct.put at h
  cases dst with
  | none => simp only [Option.some.injEq] at h; subst h; exact ⟨rfl, fun _ _ => rfl, fun t h => by cases h⟩
  | some d =>
    simp only at h
    split at h
    case isFalse => cases h
    rename_i hd
    simp only [Option.some.injEq] at h
    subst h
    refine ⟨rfl, fun k hk => ?_, fun k hk => ?_⟩
    · simp only [T.get_set]; rw [if_neg (fun e => hk (by rw [e]))]
    · simp only [Option.some.injEq] at hk
      subst hk
      exact ⟨hd, by simp only [T.get_set, if_true]⟩
theorem Puts.keep {ops : Array Oper} : ∀ {l : List Ent} {la laF : LAct}, Puts ops l la laF → laF.n = la.n ∧ ∀ t, (∀ e ∈ l, dstOf ops e.1 ≠ some t) → laF.tmps.get t = la.tmps.get t
  | [], la, laF, h => by cases h; exact ⟨rfl, fun _ _ => rfl⟩
  | e :: l, la, laF, ⟨h1, la1, h2, h3⟩ => by
    obtain ⟨h4, h5⟩ := Puts.keep h3
    obtain ⟨h6, h7, h8⟩ := put_get h2
    exact ⟨h4.trans h6, fun t ht => (h5 t fun e' he' => ht e' (by simp [he'])).trans (h7 t (ht e (by simp)))⟩
theorem Puts.dom {ops : Array Oper} : ∀ {l : List Ent} {la laF : LAct}, Puts ops l la laF → (∀ k v, la.tmps.get k = some v → k < la.n) → ∀ k v, laF.tmps.get k = some v → k < laF.n
  | [], la, laF, h, hd => by cases h; exact hd
  | e :: l, la, laF, ⟨h1, la1, h2, h3⟩, hd => by
    refine Puts.dom h3 fun k v hk => ?_
    obtain ⟨h6, h7, h8⟩ := put_get h2
    rw [h6]
    by_cases he : dstOf ops e.1 = some k
    · exact (h8 k he).1
    · rw [h7 k he] at hk; exact hd k v hk
theorem ord_spec {ops : Array Oper} {M : List Nat} : ∀ {pre : List Nat} {i : Nat} {l : List Nat}, ord ops M pre (i :: l) = true →
    (∀ t ∈ looksOf ops i, (∀ j ∈ pre, dstOf ops j = some t → Nat.testBit (M.getD i 0) j = true) ∧ ∀ j ∈ l, dstOf ops j = some t → Nat.testBit (M.getD j 0) i = true) ∧ ord ops M (i :: pre) l = true := by
  intro pre i l h
  simp only [ord, Bool.and_eq_true, List.all_eq_true, bne_iff_ne, Bool.or_eq_true] at h
  refine ⟨fun t ht => ⟨fun j hj hd => ?_, fun j hj hd => ?_⟩, h.2⟩
  · rcases (h.1 t ht).1 j hj with h1 | h1
    · exact absurd hd h1
    · exact h1
  · rcases (h.1 t ht).2 j hj with h1 | h1
    · exact absurd hd h1
    · exact h1
theorem dist_spec {ops : Array Oper} : ∀ {i : Nat} {l : List Nat}, dist ops (i :: l) = true → (∀ j ∈ l, j ≠ i ∧ ∀ t, dstOf ops i = some t → dstOf ops j ≠ some t) ∧ dist ops l = true := by
  intro i l h
  simp only [dist, Bool.and_eq_true, List.all_eq_true, bne_iff_ne, Bool.or_eq_true, beq_iff_eq] at h
  refine ⟨fun j hj => ⟨(h.1 j hj).1, fun t ht hjt => ?_⟩, h.2⟩
  rcases (h.1 j hj).2 with h1 | h1
  · rw [h1] at ht; cases ht
  · exact h1 (hjt.trans ht.symm)
/-- A slot that is looked at: all who write it are waited for, and it is as in the end; or one who writes it waits, and it is as in the beginning. -/
def LookOk (ops : Array Oper) (M : List Nat) (all : List Nat) (la0 laF : LAct) (e : Ent) : Prop :=
  ∀ t ∈ looksOf ops e.1, (e.2.1.tmps.get t = laF.tmps.get t ∧ ∀ j ∈ all, dstOf ops j = some t → Nat.testBit (M.getD e.1 0) j = true) ∨
    (e.2.1.tmps.get t = la0.tmps.get t ∧ ∃ j ∈ all, dstOf ops j = some t ∧ (j = e.1 ∨ Nat.testBit (M.getD j 0) e.1 = true))
theorem Puts.at {ops : Array Oper} {M : List Nat} {la0 : LAct} : ∀ {l : List Ent} {pre : List Nat} {la laF : LAct}, Puts ops l la laF → ord ops M pre (l.map (·.1)) = true → dist ops (l.map (·.1)) = true →
    (∀ t, (∀ j ∈ pre, dstOf ops j ≠ some t) → la.tmps.get t = la0.tmps.get t) → (∀ j ∈ pre, ∀ k ∈ l.map (·.1), ∀ t, dstOf ops j = some t → dstOf ops k ≠ some t) → ∀ e ∈ l,
    e.2.1.n = laF.n ∧ e.2.1.marks = [] ∧ (∀ t, t ∉ looksOf ops e.1 → e.2.1.tmps.get t = none) ∧ LookOk ops M (pre ++ l.map (·.1)) la0 laF e ∧ (∀ t, dstOf ops e.1 = some t → laF.tmps.get t = some e.2.2)
  | [], pre, la, laF, h, _, _, _, _, e, he => by cases he
  | x :: l, pre, la, laF, ⟨h1, la1, h2, h3⟩, hl, hd, h0, hpre, e, he => by
    obtain ⟨hl1, hl2⟩ := ord_spec hl
    obtain ⟨hd1, hd2⟩ := dist_spec hd
    obtain ⟨h6, h7, h8⟩ := put_get h2
    rcases List.mem_cons.1 he with rfl | he
    · obtain ⟨h4, h5⟩ := Puts.keep h3
      rw [h1]
      have hget : ∀ t, (restr la (looksOf ops e.1)).tmps.get t = if t ∈ looksOf ops e.1 then la.tmps.get t else none := fun t => resT_get _ _ _
      refine ⟨(h4.trans h6).symm, rfl, fun t ht => by rw [hget, if_neg ht], fun t ht => ?_, fun t ht => ?_⟩
      · rw [h1, hget, if_pos ht]
        by_cases hw : ∃ j ∈ e.1 :: l.map (·.1), dstOf ops j = some t
        · obtain ⟨j, hj, hjt⟩ := hw
          refine .inr ⟨h0 t fun j' hj' he' => hpre j' hj' j (by simpa using hj) t he' hjt, j, by simp only [List.map_cons, List.mem_append]; exact .inr hj, hjt, ?_⟩
          rcases List.mem_cons.1 hj with rfl | hj
          · exact .inl rfl
          · exact .inr ((hl1 t ht).2 j hj hjt)
        · have hno : ∀ j ∈ e.1 :: l.map (·.1), dstOf ops j ≠ some t := fun j hj hjt => hw ⟨j, hj, hjt⟩
          refine .inl ⟨?_, fun j hj hjt => ?_⟩
          · rw [h5 t fun e' he' => hno e'.1 (List.mem_cons_of_mem _ (List.mem_map.2 ⟨e', he', rfl⟩)), h7 t (hno _ (by simp))]
          · rcases List.mem_append.1 hj with hj | hj
            · exact (hl1 t ht).1 j hj hjt
            · exact absurd hjt (hno j hj)
      · rw [h5 t fun e' he' => (hd1 e'.1 (List.mem_map.2 ⟨e', he', rfl⟩)).2 t ht, (h8 t ht).2]
    · have := Puts.at (M := M) (la0 := la0) (pre := x.1 :: pre) h3 hl2 hd2 (fun t ht => by
        rw [h7 t (ht x.1 (by simp))]
        exact h0 t fun j hj => ht j (by simp [hj])) (fun j hj k hk t ht => by
        rcases List.mem_cons.1 hj with rfl | hj
        · exact (hd1 k hk).2 t ht
        · exact hpre j hj k (by simp only [List.map_cons, List.mem_cons]; exact .inr hk) t ht) e he
      obtain ⟨g1, g2, g3, g4, g5⟩ := this
      refine ⟨g1, g2, g3, fun t ht => ?_, g5⟩
      rcases g4 t ht with ⟨k1, k2⟩ | ⟨k1, j, k2, k3⟩
      · refine .inl ⟨k1, fun j hj => k2 j ?_⟩
        simp only [List.map_cons, List.cons_append, List.mem_append, List.mem_cons] at hj ⊢
        rcases hj with hj | hj | hj
        · exact .inr (.inl hj)
        · exact .inl hj
        · exact .inr (.inr hj)
      · refine .inr ⟨k1, j, ?_, k3⟩
        simp only [List.map_cons, List.cons_append, List.mem_append, List.mem_cons] at k2 ⊢
        rcases k2 with k2 | k2 | k2
        · exact .inr (.inl k2)
        · exact .inl k2
        · exact .inr (.inr k2)
end Go.Proofs.YtedfhallhpkkhaaGreatDoor.X
/- Regions that draw: what a local run that succeeds says of each record and of each boundary. Any program. -/
namespace Go.Proofs.YtedfhallhpkkhaaGreatDoor.X
open Go Go.RowKit

section
variable {P : Program} {orc : Orc} {ih : Task → Option Res} {ops : Array Oper} {base : Nat}

/-- What is known of a record. -/
def NOk (P : Program) (ops : Array Oper) (base : Nat) (r : NRec) : Prop :=
  ∃ o, ops[r.i]? = some o ∧ isEff o.op = false ∧ match r.k with
    | .skip => lwanted ops r.la o = false ∧ r.v = undef
    | .pure => lwanted ops r.la o = true ∧ lop P (lev r.la) ⟨.nil, BIG⟩ o = some (r.v, ⟨.nil, BIG⟩)
    | .read => lwanted ops r.la o = true ∧ isRead o.op = true
    | .zero x => lwanted ops r.la o = true ∧ slotsOk plain r.la (looksOf ops r.i) = true ∧ ∃ h1, lop P (lev r.la) ⟨.nil, base + r.i⟩ o = some (r.v, h1) ∧ h1.next = base + r.i + 1 ∧ h1.get (base + r.i) = some x
theorem isNilT_eq {t : T LO} (h : isNilT t = true) : t = .nil := by cases t with | nil => rfl | node l v r => cases h
theorem tryPure_ok {lr : LAct} {o : Oper} {v : Value} (h : tryPure P lr o = some v) : lop P (lev lr) ⟨.nil, BIG⟩ o = some (v, ⟨.nil, BIG⟩) := by
  unfold tryPure at h
  split at h
  case h_2 => cases h
  rename_i u h1 hl
  split at h
  case isFalse => cases h
  rename_i hn
  simp only [Option.some.injEq] at h
  subst h
  obtain ⟨t, n⟩ := h1
  obtain ⟨h2, h3⟩ := hn
  rw [hl]
  simp only at h2 h3
  rw [isNilT_eq h2, h3]
theorem tryZero_ok {lr : LAct} {i : Nat} {o : Oper} {v : Value} {x : LO} (h : tryZero P ops base lr i o = some (v, x)) :
    slotsOk plain lr (looksOf ops i) = true ∧ ∃ h1, lop P (lev lr) ⟨.nil, base + i⟩ o = some (v, h1) ∧ h1.next = base + i + 1 ∧ h1.get (base + i) = some x := by
  unfold tryZero at h
  split at h
  case isFalse => cases h
  rename_i hs
  split at h
  case h_2 => cases h
  rename_i u h1 hl
  split at h
  case isFalse => cases h
  rename_i hn
  split at h
  case h_2 => cases h
  rename_i y hy
  simp only [Option.some.injEq, Prod.mk.injEq] at h
  obtain ⟨rfl, rfl⟩ := h
  exact ⟨hs, h1, hl, hn, hy⟩
theorem nrec_ok {H : LH} {lr : LAct} {i : Nat} {o : Oper} {r : NRec} (ho : ops[i]? = some o) (h : nrec P ops base H lr i o = some r) : r.i = i ∧ r.la = lr ∧ NOk P ops base r := by
  unfold nrec at h
  split at h
  case isTrue => cases h
  rename_i he
  replace he : isEff o.op = false := by simpa using he
  have zero : ∀ {r}, ((tryZero P ops base lr i o).map fun p => (⟨i, lr, p.1, .zero p.2⟩ : NRec)) = some r → lwanted ops lr o = true → r.i = i ∧ r.la = lr ∧ NOk P ops base r := by
    intro r h hw
    cases hz : tryZero P ops base lr i o with
    | none => rw [hz] at h; cases h
    | some p =>
      rw [hz] at h
      simp only [Option.map_some, Option.some.injEq] at h
      subst h
      obtain ⟨v, x⟩ := p
      exact ⟨rfl, rfl, o, ho, he, hw, tryZero_ok hz⟩
  have pure : ∀ {v}, tryPure P lr o = some v → lwanted ops lr o = true → NOk P ops base ⟨i, lr, v, .pure⟩ := fun hv hw => ⟨o, ho, he, hw, tryPure_ok hv⟩
  split at h
  · rename_i hw
    split at h
    · rename_i hr
      split at h
      · rename_i v hv
        simp only [Option.some.injEq] at h
        subst h
        split at hv
        · exact ⟨rfl, rfl, pure hv hw⟩
        · cases hv
      · split at h
        · rename_i p hp
          split at hp
          · exact zero (by rw [hp]; exact h) hw
          · cases hp
        · cases hl : lop P (lev lr) H o with
          | none => rw [hl] at h; cases h
          | some p =>
            rw [hl] at h
            simp only [Option.map_some, Option.some.injEq] at h
            subst h
            exact ⟨rfl, rfl, o, ho, he, hw, hr⟩
    · split at h
      · exact zero h hw
      · cases hv : tryPure P lr o with
        | none => rw [hv] at h; cases h
        | some v =>
          rw [hv] at h
          simp only [Option.map_some, Option.some.injEq] at h
          subst h
          exact ⟨rfl, rfl, pure hv hw⟩
  · rename_i hw
    simp only [Option.some.injEq] at h
    subst h
    exact ⟨rfl, rfl, o, ho, he, by simpa using hw, rfl⟩
theorem dstOf_eq {i : Nat} {o : Oper} (ho : ops[i]? = some o) : dstOf ops i = o.dst := by simp [dstOf, ho]
theorem fwdN_ok {H : LH} : ∀ {l : List Nat} {la laF : LAct} {rs : List NRec}, fwdN P ops base H l la = some (rs, laF) → rs.map (·.i) = l ∧ Puts ops (rs.map NRec.ent) la laF ∧ ∀ r ∈ rs, NOk P ops base r
  | [], la, laF, rs, h => by
    simp only [fwdN, Option.some.injEq, Prod.mk.injEq] at h
    obtain ⟨rfl, rfl⟩ := h
    exact ⟨rfl, rfl, fun r hr => by cases hr⟩
  | i :: l, la, laF, rs, h => by
    simp only [fwdN] at h
    split at h
    case h_2 => cases h
    rename_i o ho
    split at h
    case h_2 => cases h
    rename_i r hr
    split at h
    case h_2 => cases h
    rename_i la1 hp
    split at h
    case h_2 => cases h
    rename_i rs1 la2 hf
    simp only [Option.some.injEq, Prod.mk.injEq] at h
    obtain ⟨rfl, rfl⟩ := h
    obtain ⟨h1, h2, h3⟩ := fwdN_ok hf
    obtain ⟨h4, h5, h6⟩ := nrec_ok ho hr
    refine ⟨by simp [h1, h4], ⟨by simp [NRec.ent, h4, h5], la1, ?_, h2⟩, fun r' hr' => ?_⟩
    · simp only [NRec.ent]
      rw [h4, dstOf_eq ho]
      exact hp
    · rcases List.mem_cons.1 hr' with rfl | hr'
      · exact h6
      · exact h3 r' hr'

/-- What is known of a read at a boundary: something that it waits for is not done, or it gives what it gives later. -/
def ReadOk (P : Program) (ops : Array Oper) (base : Nat) (H : LH) (es : List Nat) (r : NRec) : Prop :=
  r.k = .read → (∃ e ∈ es, Nat.testBit ((masks ops).getD r.i 0) e = true) ∨ (slotsOk (idsOk (avail base ops.size H)) r.la (looksOf ops r.i) = true ∧ ∃ o h, ops[r.i]? = some o ∧ lop P (lev r.la) H o = some (r.v, h) ∧ h.next = H.next)
theorem readAt_ok {H : LH} {es : List Nat} {r : NRec} (h : readAt P ops base H es r = true) : ReadOk P ops base H es r := by
  intro hk
  unfold readAt at h
  rw [hk] at h
  simp only [Bool.or_eq_true, List.any_eq_true, Bool.and_eq_true] at h
  rcases h with h | ⟨h1, h2⟩
  · exact .inl h
  · refine .inr ⟨h1, ?_⟩
    split at h2
    case h_2 => cases h2
    rename_i o ho
    split at h2
    case h_2 => cases h2
    rename_i v hh hv
    simp only [Bool.and_eq_true, Nat.beq_eq] at h2
    exact ⟨o, hh, ho, by rw [hv, veq_eq _ _ h2.2], h2.1⟩
def Good (P : Program) (orc : Orc) (ih : Task → Option Res) (ops : Array Oper) (base : Nat) (last : List NRec) (hF : LH) : LH → List DSeg → Prop
  | H, [] => H.next ≤ BIG ∧ (∀ r ∈ last, ReadOk P ops base H [] r) ∧ hF = absorb base H last
  | H, s :: rest => H.next ≤ BIG ∧ (∀ r ∈ s.ns ++ rest.flatMap (·.ns) ++ last, ReadOk P ops base H (s.e :: rest.map (·.e)) r) ∧ s.pre = absorb base H s.ns ∧
    slotsOk (idsOk (avail base ops.size s.pre)) s.la (looksOf ops s.e) = true ∧ (∃ o, ops[s.e]? = some o ∧ isSelect o.op = false ∧ (if lwanted ops s.la o = true then lexec P orc ih s.la s.pre o else some (undef, s.pre)) = some (s.v, s.post)) ∧ Good P orc ih ops base last hF s.post rest
theorem fwd_ok : ∀ {sg : Segs} {last : List Nat} {la laF : LAct} {H hF : LH} {ds : List DSeg} {rs : List NRec}, fwd P orc ih ops base sg last la H = some (ds, rs, laF, hF) →
    readsAt P ops base rs ds H = true →
    Good P orc ih ops base rs hF H ds ∧ Puts ops (entsOf ds rs) la laF ∧ ds.map (fun s => (s.ns.map (·.i), s.e)) = sg ∧ rs.map (·.i) = last ∧ (∀ s ∈ ds, ∀ r ∈ s.ns, NOk P ops base r) ∧ ∀ r ∈ rs, NOk P ops base r
  | [], last, la, laF, H, hF, ds, rs, h, hr => by
    simp only [fwd] at h
    split at h
    case h_2 => cases h
    rename_i rs1 la1 hf
    simp only [Option.some.injEq, Prod.mk.injEq] at h
    obtain ⟨rfl, rfl, rfl, rfl⟩ := h
    obtain ⟨h1, h2, h3⟩ := fwdN_ok hf
    simp only [readsAt, Bool.and_eq_true, List.all_eq_true] at hr
    exact ⟨⟨Nat.le_of_ble_eq_true hr.1, fun r hm => readAt_ok (hr.2 r hm), rfl⟩, h2, rfl, h1, fun s hs => (by cases hs), h3⟩
  | sg :: rest, last, la, laF, H, hF, ds, rs, h, hr => by
    simp only [fwd] at h
    split at h
    case h_2 => cases h
    rename_i rs1 la1 hf
    split at h
    case h_2 => cases h
    rename_i o ho
    split at h
    case isFalse => cases h
    rename_i hslots
    split at h
    case h_2 => cases h
    rename_i v post hex
    split at h
    case h_2 => cases h
    rename_i la2 hp
    split at h
    case h_2 => cases h
    rename_i ds1 rs2 laF1 hF1 hrec
    simp only [Option.some.injEq, Prod.mk.injEq] at h
    obtain ⟨rfl, rfl, rfl, rfl⟩ := h
    obtain ⟨h1, h2, h3⟩ := fwdN_ok hf
    simp only [readsAt, Bool.and_eq_true] at hr
    obtain ⟨⟨hr1, hr2⟩, hr3⟩ := hr
    rw [List.all_eq_true] at hr2
    obtain ⟨g1, g2, g3, g4, g5, g6⟩ := fwd_ok hrec hr3
    refine ⟨⟨Nat.le_of_ble_eq_true hr1, fun r hm => readAt_ok (hr2 r hm), rfl, hslots.1, ⟨o, ho, hslots.2, hex⟩, g1⟩, ?_, ?_, g4, ?_, g6⟩
    · have : entsOf (⟨rs1, absorb base H rs1, sg.2, restr la1 (looksOf ops sg.2), v, post⟩ :: ds1) rs2 = rs1.map NRec.ent ++ ((sg.2, restr la1 (looksOf ops sg.2), v) :: entsOf ds1 rs2) := by
        simp [entsOf, DSeg.ent]
      rw [this]
      exact Puts.append h2 ⟨rfl, la2, by rw [dstOf_eq ho]; exact hp, g2⟩
    · simp [g3, h1]
    · intro s hs r hm
      rcases List.mem_cons.1 hs with rfl | hs
      · exact h3 r hm
      · exact g5 s hs r hm
end
end Go.Proofs.YtedfhallhpkkhaaGreatDoor.X
/- Regions that draw: the invariant of a run in any order, its heap's part. Any program. -/
namespace Go.Proofs.YtedfhallhpkkhaaGreatDoor.X
open Go Go.RowKit

def uni (R Z : Map) : Map := fun i => match R i with | some x => some x | none => Z i
theorem uni_ext (R Z : Map) : R.ext (uni R Z) := by
  intro i x h
  unfold uni
  rw [h]
theorem uni_ext_both {R R' Z Z' : Map} (hR : R.ext R') (hZ : ∀ i y, R i = none → Z i = some y → uni R' Z' i = some y) : (uni R Z).ext (uni R' Z') := by
  intro i y h
  unfold uni at h
  cases hr : R i with
  | some x => rw [hr] at h; simp only [Option.some.injEq] at h; subst h; exact uni_ext R' Z' i x (hR i x hr)
  | none => rw [hr] at h; exact hZ i y hr h
def one (i b d : Nat) : Map := fun j => if j = i then some (b, d) else none
theorem one_ext {i b d : Nat} {R : Map} (h : R i = some (b, d)) : (one i b d).ext R := by
  intro j x hj
  unfold one at hj
  split at hj
  · rename_i e; subst e; rw [h]; exact hj
  · cases hj
theorem two_ext {i b d : Nat} {R : Map} (h0 : R 0 = some (0, 0)) (h : R i = some (b, d)) : ((one 0 0 0).put i b d).ext R := by
  intro j x hj
  unfold Map.put at hj
  split at hj
  · rename_i e; subst e; rw [h]; exact hj
  · exact one_ext h0 j x hj
theorem ORel.some {R : Map} {i : Nat} {o : LO} {H : Array Obj} {b : Nat} (h : ORel R i o H[b]?) : b < H.size := by
  rcases Nat.lt_or_ge b H.size with h3 | h3
  · exact h3
  · rw [Array.getElem?_eq_none h3] at h
    cases o with
    | cells => obtain ⟨_, _, _, h4, _⟩ := h; cases h4
    | map => simp only [ORel] at h; cases h.1
    | loop => obtain ⟨_, _, h4, _⟩ := h; cases h4
    | obj => simp only [ORel] at h; cases h.1

theorem Goes.of_keep {R : Map} {H : LH} {w w' : World} (r : HRel R H w.heap) (hs : w.heap.size ≤ w'.heap.size) (h1 : w'.os = w.os) (h2 : w'.tape = w.tape) (h3 : w'.output = w.output) (hk : ∀ b, b < w.heap.size → w'.heap[b]? = w.heap[b]?) : Goes R H w R H w' := by
  refine ⟨Map.ext_refl R, fun _ _ => rfl, ⟨fun i o hi => ?_, r.inj, r.fresh, r.glob.1, r.glob.2.1.of (hk 0 r.glob.2.1.pos), r.glob.2.2⟩, Nat.le_refl _, hs, h1, h2, h3, fun b hb _ => hk b hb, fun i o hi => .inl ⟨i, o, hi, rfl⟩⟩
  obtain ⟨h4, h5⟩ := r.ok i o hi
  refine ⟨h4, ?_⟩
  rw [hk _ (r.img_lt hi)]
  exact h5

structure HInv (ops : Array Oper) (base : Nat) (R0 : Map) (h0 : LH) (w0 : World) (D : Nat → Prop) (H : LH) (fut : List NRec) (R Z : Map) (w : World) : Prop where
  goes : Goes R0 h0 w0 R H w
  hbase : base = h0.next
  pos : 0 < w0.heap.size
  bpos : 0 < base
  resv : base + ops.size ≤ H.next
  idx : ∀ r ∈ fut, r.i < ops.size
  uniq : ∀ r ∈ fut, ∀ r' ∈ fut, r.i = r'.i → r = r'
  free : ∀ r ∈ fut, R (base + r.i) = none
  zero : ∀ r ∈ fut, ∀ x, r.k = .zero x → D r.i → (∃ b d, Z (base + r.i) = some (b, d) ∧ w0.heap.size ≤ b ∧ b < w.heap.size ∧ ORel ((one 0 0 0).put (base + r.i) b d) (base + r.i) x w.heap[b]? ∧ ∀ j oj, H.get j = some oj → R.b j ≠ b)
  zdom : ∀ k y, Z k = some y → ∃ r ∈ fut, ∃ x, r.k = .zero x ∧ D r.i ∧ k = base + r.i
  zinj : ∀ k k' y y', Z k = some y → Z k' = some y' → y.1 = y'.1 → k = k'

section
variable {ops : Array Oper} {base : Nat} {R0 : Map} {h0 : LH} {w0 : World} {D : Nat → Prop} {H : LH} {fut : List NRec} {R Z : Map} {w : World}
/-- The world goes on, and the heap. -/
theorem HInv.go {R' : Map} {H' : LH} {w' : World} (v : HInv ops base R0 h0 w0 D H fut R Z w) (g : Goes R H w R' H' w') : HInv ops base R0 h0 w0 D H' fut R' Z w' := by
  refine ⟨v.goes.trans g, v.hbase, v.pos, v.bpos, Nat.le_trans v.resv g.next, v.idx, v.uniq, fun r hr => ?_, fun r hr x hk hd => ?_, v.zdom, v.zinj⟩
  · have := v.idx r hr
    have := v.resv
    rw [g.old _ (by omega)]
    exact v.free r hr
  · obtain ⟨b, d, h1, h2, h3, h4, h5⟩ := v.zero r hr x hk hd
    have hf := g.frame b h3 h5
    refine ⟨b, d, h1, h2, Nat.lt_of_lt_of_le h3 g.size, by rw [hf]; exact h4, fun j oj hj e => ?_⟩
    rcases g.img j oj hj with ⟨j', o', hj', hb⟩ | hge
    · exact h5 j' o' hj' (hb.trans e)
    · omega
/-- A zero that was made early is taken up. -/
theorem HInv.adopt {r : NRec} {x : LO} (v : HInv ops base R0 h0 w0 D H (r :: fut) R Z w) (hk : r.k = .zero x) (hd : D r.i) (hnd : ∀ r' ∈ fut, r'.i ≠ r.i) :
    ∃ R' Z', HInv ops base R0 h0 w0 D (H.put (base + r.i) x) fut R' Z' w ∧ uni R' Z' = uni R Z := by
  obtain ⟨b, d, h1, h2, h3, h4, h5⟩ := v.zero r (by simp) x hk hd
  have hfree := v.free r (by simp)
  have hidx := v.idx r (by simp)
  have hres := v.resv
  have hext : R.ext (R.put (base + r.i) b d) := Map.put_ext hfree
  have hb : ∀ j oj, H.get j = some oj → (R.put (base + r.i) b d).b j = R.b j := fun j oj hj => Map.ext_b hext (v.goes.rel.ok j oj hj).1
  have hself : (R.put (base + r.i) b d) (base + r.i) = some (b, d) := by simp [Map.put]
  have hother : ∀ k, k ≠ base + r.i → (R.put (base + r.i) b d) k = R k := fun k hk => by simp [Map.put, hk]
  have hne : ∀ j oj, H.get j = some oj → j ≠ base + r.i := fun j oj hj e => by
    have := (v.goes.rel.ok j oj hj).1
    rw [e, hfree] at this
    cases this
  refine ⟨R.put (base + r.i) b d, fun k => if k = base + r.i then none else Z k, ⟨⟨Map.ext_trans v.goes.ext hext, fun i hi => ?_, ⟨fun i o hi => ?_, fun i j oi oj hi hj e => ?_, fun i hi => ?_, hext 0 _ v.goes.rel.glob.1, v.goes.rel.glob.2.1, fun i o hi => ?_⟩, v.goes.next, v.goes.size, v.goes.os, v.goes.tape, v.goes.output, v.goes.frame, fun i o hi => ?_⟩, v.hbase, v.pos, v.bpos, v.resv, fun r' hr' => v.idx r' (by simp [hr']), fun r1 h1 r2 h2 => v.uniq r1 (by simp [h1]) r2 (by simp [h2]), fun r' hr' => ?_, fun r' hr' y hk' hd' => ?_, fun k y hy => ?_, fun k k' y y' hy hy' e => ?_⟩, ?_⟩
  · rw [hother i (by have := v.hbase; omega)]; exact v.goes.old i hi
  · rw [LH.get_put] at hi
    by_cases he : i = base + r.i
    · subst he
      simp only [if_true, Option.some.injEq] at hi
      subst hi
      refine ⟨by rw [hself]; rfl, ?_⟩
      have : (R.put (base + r.i) b d).b (base + r.i) = b := by simp [Map.b, hself]
      rw [this]
      exact h4.ext (two_ext (hext 0 _ v.goes.rel.glob.1) hself) (Map.put_isSome _ _ _ _)
    · rw [if_neg he] at hi
      obtain ⟨g1, g2⟩ := v.goes.rel.ok i o hi
      refine ⟨Map.ext_isSome hext g1, ?_⟩
      rw [hb i o hi]
      exact g2.ext hext g1
  · rw [LH.get_put] at hi hj
    have hbs : (R.put (base + r.i) b d).b (base + r.i) = b := by simp [Map.b, hself]
    by_cases he : i = base + r.i
    · by_cases he' : j = base + r.i
      · rw [he, he']
      · rw [if_neg he'] at hj
        rw [he, hbs, hb j oj hj] at e
        exact absurd e.symm (h5 j oj hj)
    · rw [if_neg he] at hi
      by_cases he' : j = base + r.i
      · rw [he', hbs, hb i oi hi] at e
        exact absurd e (h5 i oi hi)
      · rw [if_neg he'] at hj
        rw [hb i oi hi, hb j oj hj] at e
        exact v.goes.rel.inj i j oi oj hi hj e
  · have hi' : H.next ≤ i := hi
    rw [hother i (by omega)]
    exact v.goes.rel.fresh i hi'
  · rw [LH.get_put] at hi
    by_cases he : i = base + r.i
    · subst he
      have : (R.put (base + r.i) b d).b (base + r.i) = b := by simp [Map.b, hself]
      rw [this]
      have := v.pos
      omega
    · rw [if_neg he] at hi
      rw [hb i o hi]
      exact v.goes.rel.glob.2.2 i o hi
  · rw [LH.get_put] at hi
    by_cases he : i = base + r.i
    · subst he
      have : (R.put (base + r.i) b d).b (base + r.i) = b := by simp [Map.b, hself]
      rw [this]
      exact .inr h2
    · rw [if_neg he] at hi
      rw [hb i o hi]
      exact v.goes.img i o hi
  · rw [hother _ (by have := hnd r' hr'; omega)]
    exact v.free r' (by simp [hr'])
  · obtain ⟨b', d', g1, g2, g3, g4, g5⟩ := v.zero r' (by simp [hr']) y hk' hd'
    have hi := hnd r' hr'
    refine ⟨b', d', by rw [if_neg (by omega)]; exact g1, g2, g3, g4, fun j oj hj e => ?_⟩
    rw [LH.get_put] at hj
    by_cases he : j = base + r.i
    · subst he
      have : (R.put (base + r.i) b d).b (base + r.i) = b := by simp [Map.b, hself]
      rw [this] at e
      have := v.zinj _ _ _ _ h1 g1 e
      omega
    · rw [if_neg he] at hj
      rw [hb j oj hj] at e
      exact g5 j oj hj e
  · split at hy
    · cases hy
    · rename_i hne'
      obtain ⟨r', hr', x', g1, g2, g3⟩ := v.zdom k y hy
      rcases List.mem_cons.1 hr' with rfl | hr'
      · exact absurd g3 hne'
      · exact ⟨r', hr', x', g1, g2, g3⟩
  · split at hy
    · cases hy
    · split at hy'
      · cases hy'
      · exact v.zinj k k' y y' hy hy' e
  · funext k
    unfold uni
    by_cases he : k = base + r.i
    · subst he; rw [hself, hfree, h1]
    · simp only [hother k he, he, if_false]
theorem HInv.drop {r : NRec} (v : HInv ops base R0 h0 w0 D H (r :: fut) R Z w) (hk : ∀ x, r.k ≠ .zero x) : HInv ops base R0 h0 w0 D H fut R Z w := by
  refine ⟨v.goes, v.hbase, v.pos, v.bpos, v.resv, fun r' hr' => v.idx r' (by simp [hr']), fun r1 h1 r2 h2 => v.uniq r1 (by simp [h1]) r2 (by simp [h2]), fun r' hr' => v.free r' (by simp [hr']), fun r' hr' => v.zero r' (by simp [hr']), fun k y hy => ?_, v.zinj⟩
  obtain ⟨r', hr', x', g1, g2, g3⟩ := v.zdom k y hy
  rcases List.mem_cons.1 hr' with rfl | hr'
  · exact absurd g1 (hk x')
  · exact ⟨r', hr', x', g1, g2, g3⟩
theorem HInv.absorb : ∀ {ns : List NRec} {H : LH} {R Z : Map}, HInv ops base R0 h0 w0 D H (ns ++ fut) R Z w → (∀ r ∈ ns, D r.i) → ((ns ++ fut).map (·.i)).Nodup →
    ∃ R' Z', HInv ops base R0 h0 w0 D (absorb base H ns) fut R' Z' w ∧ uni R' Z' = uni R Z
  | [], H, R, Z, v, _, _ => ⟨R, Z, v, rfl⟩
  | r :: ns, H, R, Z, v, hd, hn => by
    simp only [List.cons_append, List.map_cons, List.nodup_cons] at hn
    obtain ⟨hn1, hn2⟩ := hn
    cases hk : r.k with
    | zero x =>
      obtain ⟨R1, Z1, v1, e1⟩ := HInv.adopt v hk (hd r (by simp)) (fun r' hr' e => hn1 (List.mem_map.2 ⟨r', hr', e⟩))
      obtain ⟨R2, Z2, v2, e2⟩ := HInv.absorb v1 (fun r hr => hd r (by simp [hr])) hn2
      refine ⟨R2, Z2, ?_, e2.trans e1⟩
      simp only [X.absorb, hk]
      exact v2
    | skip =>
      obtain ⟨R2, Z2, v2, e2⟩ := HInv.absorb (HInv.drop v (by simp [hk])) (fun r hr => hd r (by simp [hr])) hn2
      exact ⟨R2, Z2, by simp only [X.absorb, hk]; exact v2, e2⟩
    | pure =>
      obtain ⟨R2, Z2, v2, e2⟩ := HInv.absorb (HInv.drop v (by simp [hk])) (fun r hr => hd r (by simp [hr])) hn2
      exact ⟨R2, Z2, by simp only [X.absorb, hk]; exact v2, e2⟩
    | read =>
      obtain ⟨R2, Z2, v2, e2⟩ := HInv.absorb (HInv.drop v (by simp [hk])) (fun r hr => hd r (by simp [hr])) hn2
      exact ⟨R2, Z2, by simp only [X.absorb, hk]; exact v2, e2⟩
/-- One more is done that is no zero. -/
theorem HInv.mark {i : Nat} (v : HInv ops base R0 h0 w0 D H fut R Z w) (hk : ∀ r ∈ fut, r.i = i → ∀ x, r.k ≠ .zero x) : HInv ops base R0 h0 w0 (fun j => D j ∨ j = i) H fut R Z w := by
  refine ⟨v.goes, v.hbase, v.pos, v.bpos, v.resv, v.idx, v.uniq, v.free, fun r hr x hx hd => ?_, fun k y hy => ?_, v.zinj⟩
  · rcases hd with hd | hd
    · exact v.zero r hr x hx hd
    · exact absurd hx (hk r hr hd x)
  · obtain ⟨r', hr', x', g1, g2, g3⟩ := v.zdom k y hy
    exact ⟨r', hr', x', g1, .inl g2, g3⟩
/-- One more zero is made. -/
theorem HInv.made {r : NRec} {x : LO} {b d : Nat} (v : HInv ops base R0 h0 w0 D H fut R Z w) (hr : r ∈ fut) (hk : r.k = .zero x) (hd : ¬ D r.i) (h2 : w0.heap.size ≤ b) (h4 : ORel ((one 0 0 0).put (base + r.i) b d) (base + r.i) x w.heap[b]?)
    (h5 : ∀ j oj, H.get j = some oj → R.b j ≠ b) (h6 : ∀ k y, Z k = some y → y.1 ≠ b) :
    HInv ops base R0 h0 w0 (fun j => D j ∨ j = r.i) H fut R (Z.put (base + r.i) b d) w ∧ (uni R Z).ext (uni R (Z.put (base + r.i) b d)) ∧ uni R (Z.put (base + r.i) b d) (base + r.i) = some (b, d) := by
  have hz : Z (base + r.i) = none := by
    cases hz : Z (base + r.i) with
    | none => rfl
    | some y =>
      obtain ⟨r', hr', x', g1, g2, g3⟩ := v.zdom _ y hz
      have : r.i = r'.i := by omega
      rw [← this] at g2
      exact absurd g2 hd
  have hother : ∀ k, k ≠ base + r.i → (Z.put (base + r.i) b d) k = Z k := fun k hk => by simp [Map.put, hk]
  have hself : (Z.put (base + r.i) b d) (base + r.i) = some (b, d) := by simp [Map.put]
  refine ⟨⟨v.goes, v.hbase, v.pos, v.bpos, v.resv, v.idx, v.uniq, v.free, fun r' hr' x' hx hd' => ?_, fun k y hy => ?_, fun k k' y y' hy hy' e => ?_⟩, ?_, ?_⟩
  · by_cases he : r'.i = r.i
    · have := v.uniq r' hr' r hr he
      subst this
      rw [hk] at hx
      simp only [NK.zero.injEq] at hx
      subst hx
      exact ⟨b, d, hself, h2, h4.some, h4, h5⟩
    · obtain ⟨b', d', g1, g2⟩ := v.zero r' hr' x' hx (hd'.resolve_right he)
      exact ⟨b', d', by rw [hother _ (by omega)]; exact g1, g2⟩
  · by_cases he : k = base + r.i
    · exact ⟨r, hr, x, hk, .inr rfl, he⟩
    · rw [hother k he] at hy
      obtain ⟨r', hr', x', g1, g2, g3⟩ := v.zdom k y hy
      exact ⟨r', hr', x', g1, .inl g2, g3⟩
  · by_cases he : k = base + r.i
    · by_cases he' : k' = base + r.i
      · rw [he, he']
      · rw [he, hself, Option.some.injEq] at hy
        rw [hother k' he'] at hy'
        subst hy
        exact absurd e.symm (h6 k' y' hy')
    · rw [hother k he] at hy
      by_cases he' : k' = base + r.i
      · rw [he', hself, Option.some.injEq] at hy'
        subst hy'
        exact absurd e (h6 k y hy)
      · rw [hother k' he'] at hy'
        exact v.zinj k k' y y' hy hy' e
  · refine uni_ext_both (Map.ext_refl R) fun i y hi hy => ?_
    unfold uni
    rw [hi]
    by_cases he : i = base + r.i
    · rw [he, hz] at hy; cases hy
    · simp only; rw [hother i he]; exact hy
  · unfold uni
    rw [v.free r hr]
    exact hself
end
end Go.Proofs.YtedfhallhpkkhaaGreatDoor.X
/- Regions that draw: the invariant's slots, and one operation in any order. Any program. -/
namespace Go.Proofs.YtedfhallhpkkhaaGreatDoor.X
open Go Go.RowKit

def Slot (U : Map) (a : Act) (t : Tmp) (v : Value) : Prop := a.tmps[t]? = some (ren U v) ∧ wfv U v
theorem Slot.ext {U U' : Map} (h : U.ext U') {a : Act} {t : Tmp} {v : Value} (s : Slot U a t v) : Slot U' a t v := by
  obtain ⟨h1, h2⟩ := s
  obtain ⟨h3, h4⟩ := ren_ext h v h2
  exact ⟨by rw [h1, h3], h4⟩
structure SInv (ops : Array Oper) (all : List Nat) (la0 laF : LAct) (defs : List Deferred) (D : Nat → Prop) (U : Map) (a : Act) : Prop where
  size : a.tmps.size = laF.n
  defers : a.defers = defs
  fin : ∀ t, t < laF.n → (∀ j ∈ all, dstOf ops j = some t → D j) → Slot U a t ((laF.tmps.get t).getD undef)
  ini : ∀ t, t < laF.n → ∀ j ∈ all, dstOf ops j = some t → ¬ D j → Slot U a t ((la0.tmps.get t).getD undef)
section
variable {ops : Array Oper} {all : List Nat} {la0 laF : LAct} {defs : List Deferred} {D : Nat → Prop} {U U' : Map} {a : Act}
theorem SInv.ext (h : U.ext U') (s : SInv ops all la0 laF defs D U a) : SInv ops all la0 laF defs D U' a :=
  ⟨s.size, s.defers, fun t ht hd => (s.fin t ht hd).ext h, fun t ht j hj hjt hd => (s.ini t ht j hj hjt hd).ext h⟩
theorem SInv.put {i : Nat} {v : Value} (s : SInv ops all la0 laF defs D U a) (hi : i ∈ all) (hu : ∀ j ∈ all, ∀ t, dstOf ops i = some t → dstOf ops j = some t → j = i) (hv : ∀ t, dstOf ops i = some t → laF.tmps.get t = some v) (hw : wfv U v) :
    SInv ops all la0 laF defs (fun j => D j ∨ j = i) U (a.put (dstOf ops i) (ren U v)) := by
  cases hd : dstOf ops i with
  | none =>
    refine ⟨s.size, s.defers, fun t ht h => s.fin t ht fun j hj hjt => ?_, fun t ht j hj hjt h => s.ini t ht j hj hjt fun hD => h (.inl hD)⟩
    rcases h j hj hjt with h1 | h1
    · exact h1
    · subst h1; rw [hd] at hjt; cases hjt
  | some d =>
    refine ⟨by simp [Act.put, s.size], s.defers, fun t ht h => ?_, fun t ht j hj hjt h => ?_⟩
    · by_cases he : t = d
      · subst he
        rw [hv t hd]
        refine ⟨?_, hw⟩
        simp only [Act.put, Option.getD_some]
        have h1 : t < a.tmps.size := by rw [s.size]; exact ht
        rw [Array.getElem?_setIfInBounds_self_of_lt h1]
      · obtain ⟨h1, h2⟩ := s.fin t ht fun j hj hjt => by
          rcases h j hj hjt with h1 | h1
          · exact h1
          · subst h1
            rw [hd] at hjt
            simp only [Option.some.injEq] at hjt
            exact absurd hjt.symm he
        refine ⟨?_, h2⟩
        simp only [Act.put]
        rw [Array.getElem?_setIfInBounds_ne (fun e => he e.symm)]
        exact h1
    · by_cases he : t = d
      · subst he
        exact absurd (.inr (hu j hj t hd hjt)) h
      · obtain ⟨h1, h2⟩ := s.ini t ht j hj hjt fun hD => h (.inl hD)
        refine ⟨?_, h2⟩
        simp only [Act.put]
        rw [Array.getElem?_setIfInBounds_ne (fun e => he e.symm)]
        exact h1

/-- What is known of an entry. -/
structure EntOk (ops : Array Oper) (M all : List Nat) (la0 laF : LAct) (e : Ent) : Prop where
  n : e.2.1.n = laF.n
  marks : e.2.1.marks = []
  none : ∀ t, t ∉ looksOf ops e.1 → e.2.1.tmps.get t = none
  look : LookOk ops M all la0 laF e
  dst : ∀ t, dstOf ops e.1 = some t → laF.tmps.get t = some e.2.2
  domF : ∀ t v, laF.tmps.get t = some v → t < laF.n
  dom0 : ∀ t v, la0.tmps.get t = some v → t < laF.n
theorem SInv.agree {M : List Nat} {e : Ent} (s : SInv ops all la0 laF defs D U a) (k : EntOk ops M all la0 laF e) (hnd : ¬ D e.1) (hm : ∀ j, Nat.testBit (M.getD e.1 0) j = true → D j)
    (hc : ∀ j, D j → ∀ i, Nat.testBit (M.getD j 0) i = true → D i) {t : Tmp} (ht : t ∈ looksOf ops e.1) (hlt : t < laF.n) : Slot U a t ((e.2.1.tmps.get t).getD undef) := by
  rcases k.look t ht with ⟨h1, h2⟩ | ⟨h1, j, hj, hjt, h2⟩
  · rw [h1]
    exact s.fin t hlt fun j hj hjt => hm j (h2 j hj hjt)
  · rw [h1]
    refine s.ini t hlt j hj hjt fun hD => hnd ?_
    rcases h2 with rfl | h2
    · exact hD
    · exact hc j hD _ h2

noncomputable def realOf (U : Map) (la : LAct) (a : Act) : Act := { a with tmps := ((List.range la.n).map fun k => ren U ((la.tmps.get k).getD undef)).toArray, defers := [] }
theorem realOf_get (U : Map) (la : LAct) (a : Act) (k : Nat) : (realOf U la a).tmps[k]? = if k < la.n then some (ren U ((la.tmps.get k).getD undef)) else none := by
  simp only [realOf, List.getElem?_toArray, List.getElem?_map]
  by_cases h : k < la.n
  · rw [if_pos h, List.getElem?_range h]; rfl
  · rw [if_neg h, List.getElem?_eq_none (by simpa using h)]; rfl
theorem realOf_ext {U U' : Map} {la : LAct} (h : U.ext U') (hw : ∀ k v, la.tmps.get k = some v → wfv U v) (a : Act) : realOf U' la a = realOf U la a := by
  unfold realOf
  congr 2
  apply List.map_congr_left
  intro k _
  cases hk : la.tmps.get k with
  | none => exact (ren_ext h undef (wf_undef U)).1
  | some v => exact (ren_ext h v (hw k v hk)).1
theorem realOf_rel {U : Map} {la : LAct} {a : Act} (hm : la.marks = []) (hw : ∀ k v, la.tmps.get k = some v → k < la.n ∧ wfv U v) : ARel U la (realOf U la a) := by
  refine ⟨⟨by simp [realOf], fun k hk => by rw [realOf_get, if_pos hk], hw⟩, by rw [hm]; rfl, fun i hi => by rw [hm] at hi; cases hi⟩
variable {M : List Nat} {e : Ent}
theorem EntOk.get (k : EntOk ops M all la0 laF e) {t : Tmp} {v : Value} (h : e.2.1.tmps.get t = some v) : t ∈ looksOf ops e.1 ∧ t < laF.n := by
  by_cases ht : t ∈ looksOf ops e.1
  · refine ⟨ht, ?_⟩
    rcases k.look t ht with ⟨h1, _⟩ | ⟨h1, _⟩
    · rw [h1] at h; exact k.domF t v h
    · rw [h1] at h; exact k.dom0 t v h
  · rw [k.none t ht] at h; cases h
theorem SInv.real (s : SInv ops all la0 laF defs D U a) (k : EntOk ops M all la0 laF e) (hnd : ¬ D e.1) (hm : ∀ j, Nat.testBit (M.getD e.1 0) j = true → D j)
    (hc : ∀ j, D j → ∀ i, Nat.testBit (M.getD j 0) i = true → D i) : ARel U e.2.1 (realOf U e.2.1 a) ∧ ∀ t ∈ looksOf ops e.1, a.tmps[t]? = (realOf U e.2.1 a).tmps[t]? := by
  refine ⟨realOf_rel k.marks fun t v hv => ?_, fun t ht => ?_⟩
  · obtain ⟨h1, h2⟩ := k.get hv
    have := (s.agree k hnd hm hc h1 h2).2
    rw [hv] at this
    exact ⟨by rw [k.n]; exact h2, this⟩
  · rw [realOf_get, k.n]
    by_cases hlt : t < laF.n
    · rw [if_pos hlt]; exact (s.agree k hnd hm hc ht hlt).1
    · rw [if_neg hlt, Array.getElem?_eq_none (by rw [s.size]; exact Nat.le_of_not_lt hlt)]
theorem looks_op {o : Oper} {i : Nat} (ho : ops[i]? = some o) {t : Tmp} (ht : .tmp t ∈ o.op.operands) : t ∈ looksOf ops i := by
  simp only [looksOf, ho, Oper.looksAt]
  exact List.mem_append_left _ (List.mem_filterMap.2 ⟨.tmp t, by simpa using ht, rfl⟩)
theorem eval_real {o : Oper} {i : Nat} {b : Act} (ho : ops[i]? = some o) (hb : ∀ t ∈ looksOf ops i, a.tmps[t]? = b.tmps[t]?) : ∀ x ∈ o.op.operands, a.eval x = b.eval x := by
  intro x hx
  cases x with
  | tmp t =>
    have := hb t (looks_op ho hx)
    simp only [Act.eval, Array.getD_eq_getD_getElem?, this]
  | _ => rfl
theorem sem_real {o : Oper} {i : Nat} {b : Act} (ho : ops[i]? = some o) (hb : ∀ t ∈ looksOf ops i, a.tmps[t]? = b.tmps[t]?) (hs : isSelect o.op = false) (hd : isDefer o.op = false) (rr : Option Nat) : o.semAt rr a.eval = o.semAt rr b.eval := by
  have hd' : ∀ c, o.op ≠ .defer c := fun c h => by rw [h] at hd; cases hd
  rw [Oper.semAt_eq rr _ o hd', Oper.semAt_eq rr _ o hd']
  exact execOp_congr o (fun cs b h => by rw [h] at hs; cases hs) (eval_real ho hb)
theorem wanted_real {o : Oper} {i : Nat} {b : Act} (ho : ops[i]? = some o) (hb : ∀ t ∈ looksOf ops i, a.tmps[t]? = b.tmps[t]?) : Region.wanted o (yielded ops a.tmps) = Region.wanted o (yielded ops b.tmps) := by
  unfold Region.wanted
  cases hg : o.guard with
  | none => rfl
  | some g =>
    obtain ⟨j, want⟩ := g
    simp only
    congr 1
    unfold yielded
    cases hd : (ops[j]?).bind (·.dst) with
    | none => rfl
    | some t =>
      simp only [Option.bind_some]
      rw [hb t ?_]
      simp only [looksOf, ho, Oper.looksAt, hg]
      exact List.mem_append_right _ (by simp [hd])
end

theorem Outc.mono {F : Fence} {P : Program} {s : Sem Next} {w : World} {K K' : Value → World → Prop} (h : Outc F P s w K) (hk : ∀ v w', K v w' → K' v w') : Outc F P s w K' := by
  unfold Outc at h ⊢
  generalize s.run P w = r at h ⊢
  cases r with
  | halt x w' => exact h
  | ok n w' =>
    cases n <;> first
      | exact hk _ _ h
      | exact CallsIn.mono h (fun e w'' ⟨v, he, hv⟩ => ⟨v, he, hk _ _ hv⟩)
      | exact RoundIn.mono h (fun e w'' ⟨v, he, hv⟩ => ⟨v, he, hk _ _ hv⟩)
      | exact h
theorem lplain_same {P : Program} {ρ : Operand → Option Value} {H h : LH} {o : Oper} {v : Value} (hv : (match lplain P ρ o with | some v => some (v, H) | none => none) = some (v, h)) : h = H := by
  split at hv
  · simp only [Option.some.injEq, Prod.mk.injEq] at hv; exact hv.2.symm
  · cases hv
theorem lbytes_next (h : LH) (s : ByteArray) : (lbytesOf h s).2.next ≠ h.next := by
  simp [lbytesOf, lnew, LH.add]
theorem read_same {P : Program} {ρ : Operand → Option Value} {H h : LH} {o : Oper} {v : Value} (hr : isRead o.op = true) (hv : lop P ρ H o = some (v, h)) (hn : h.next = H.next) : h = H := by
  unfold lop at hv
  cases hop : o.op <;> rw [hop] at hv hr <;> try (cases hr; done)
  case load t x =>
    simp only at hv
    split at hv
    case h_2 => cases hv
    split at hv
    case h_2 => cases hv
    simp only [Option.some.injEq, Prod.mk.injEq] at hv
    exact hv.2.symm
  case convert src dst x =>
    simp only at hv
    split at hv
    case h_2 => cases hv
    split at hv
    · rename_i r hr'
      simp only [Option.some.injEq] at hv
      subst hv
      unfold lconvert at hr'
      split at hr'
      · split at hr'
        · simp only [Option.some.injEq] at hr'
          exact absurd (by rw [hr']; exact hn) (lbytes_next H _)
        · cases hr'
      · split at hr'
        · simp only [Option.map_eq_some_iff] at hr'
          obtain ⟨_, _, hr'⟩ := hr'
          simp only [Prod.mk.injEq] at hr'
          exact hr'.2.symm
        · cases hr'
      · cases hr'
    · exact lplain_same hv
  case slice t x lo hi mx =>
    cases mx with
    | none =>
      simp only at hv
      split at hv
      case h_2 => cases hv
      split at hv
      · simp only [Option.some.injEq, Prod.mk.injEq] at hv; exact hv.2.symm
      · exact lplain_same hv
    | some m => exact lplain_same hv
  case lookup t x y ok =>
    simp only at hv
    split at hv
    case h_2 => cases hv
    split at hv
    case h_2 => cases hv
    simp only [Option.some.injEq, Prod.mk.injEq] at hv
    exact hv.2.symm
  case call c =>
    simp only at hv
    simp only [isRead] at hr
    split at hr
    case h_2 => cases hr
    rename_i hc
    rw [hc] at hv
    simp only at hv
    split at hv
    case h_2 => cases hv
    split at hv
    · rename_i r hr'
      simp only [Option.some.injEq] at hv
      subst hv
      simp only [lcallB] at hr'
      split at hr'
      · simp only [Option.map_eq_some_iff, Prod.mk.injEq] at hr'
        obtain ⟨_, _, _, hr'⟩ := hr'
        exact hr'.symm
      · cases hr'
    · exact lplain_same hv
end Go.Proofs.YtedfhallhpkkhaaGreatDoor.X
/- Regions that draw: one operation, whatever has been done before it, and so the region. Any program. -/
namespace Go.Proofs.YtedfhallhpkkhaaGreatDoor.X
open Go Go.RowKit

section
variable {P : Program} {c : Ctx} {orc : Orc} {ih : Task → Option Res} {ops : Array Oper} {base : Nat} {R0 : Map} {h0 : LH} {w0 : World} {D : Nat → Prop} {H : LH} {fut : List NRec} {R Z : Map} {w : World}
  {all : List Nat} {la0 laF : LAct} {defs : List Deferred} {a : Act} {M : List Nat}

theorem slotsOk_get {f : Value → Bool} {la : LAct} {ts : List Tmp} (h : slotsOk f la ts = true) {t : Tmp} {v : Value} (ht : t ∈ ts) (hv : la.tmps.get t = some v) : f v = true := by
  have := List.all_eq_true.1 h t ht
  simp only [hv] at this
  exact this
/-- Values whose reserved numbers are there are values of the heap's own map. -/
theorem HInv.own (v : HInv ops base R0 h0 w0 D H fut R Z w) {e : Ent} (k : EntOk ops M all la0 laF e) (hu : ∀ t u, e.2.1.tmps.get t = some u → t < e.2.1.n ∧ wfv (uni R Z) u)
    (hs : slotsOk (idsOk (avail base ops.size H)) e.2.1 (looksOf ops e.1) = true) : ∀ t u, e.2.1.tmps.get t = some u → wfv R u := by
  intro t u hg
  refine idsOk_wf (f := avail base ops.size H) (fun x hx hf => ?_) u (hu t u hg).2 (slotsOk_get hs (k.get hg).1 hg)
  cases hr : R x with
  | some y => rfl
  | none =>
    simp only [uni, hr] at hx
    cases hz : Z x with
    | none => rw [hz] at hx; cases hx
    | some y =>
      obtain ⟨r, hr', x', g1, g2, g3⟩ := v.zdom x y hz
      have h1 := v.idx r hr'
      unfold avail at hf
      rw [bb_ite, bb_ite, if_pos (Nat.ble_eq_true_of_le (by omega)), if_pos (Nat.ble_eq_true_of_le (by omega))] at hf
      cases hg' : H.get x with
      | none => rw [hg'] at hf; cases hf
      | some o => have := (v.goes.rel.ok x o hg').1; rw [hr] at this; exact this
theorem goes_fix {R R' : Map} {H : LH} {w w' : World} (r : HRel R H w.heap) (g : Goes R H w R' H w') : R' = R := by
  funext i
  rcases Nat.lt_or_ge i H.next with h | h
  · exact g.old i h
  · rw [g.rel.fresh i h, r.fresh i h]
theorem nil_get (n i : Nat) : (⟨.nil, n⟩ : LH).get i = none := rfl

/-- An operation without effect, whatever has been done before. -/
theorem nstep (hinv : HInv ops base R0 h0 w0 D H fut R Z w) (s : SInv ops all la0 laF defs D (uni R Z) a) {r : NRec} (hr : r ∈ fut) (hnd : ¬ D r.i) (k : EntOk ops M all la0 laF r.ent) (hok : NOk P ops base r)
    (hread : r.k = .read → slotsOk (idsOk (avail base ops.size H)) r.la (looksOf ops r.i) = true ∧ ∃ o h, ops[r.i]? = some o ∧ lop P (lev r.la) H o = some (r.v, h) ∧ h.next = H.next)
    (hbig : H.next ≤ BIG) (hm : ∀ j, Nat.testBit (M.getD r.i 0) j = true → D j) (hc : ∀ j, D j → ∀ i, Nat.testBit (M.getD j 0) i = true → D i) {o : Oper} (ho : ops[r.i]? = some o) (hw : lwanted ops r.la o = true) (rr : Option Nat) :
    Outc (fen rr) P (o.semAt rr a.eval) w (fun vr w' => ∃ Z', (uni R Z).ext (uni R Z') ∧ HInv ops base R0 h0 w0 (fun j => D j ∨ j = r.i) H fut R Z' w' ∧ vr = ren (uni R Z') r.v ∧ wfv (uni R Z') r.v) := by
  obtain ⟨o', ho', heff, hk⟩ := hok
  rw [ho] at ho'
  simp only [Option.some.injEq] at ho'
  subst ho'
  obtain ⟨hrel, hag⟩ : ARel (uni R Z) r.la (realOf (uni R Z) r.la a) ∧ ∀ t ∈ looksOf ops r.i, a.tmps[t]? = (realOf (uni R Z) r.la a).tmps[t]? := s.real k hnd hm hc
  have hdf : isDefer o.op = false := by cases hop : o.op <;> rw [hop] at heff <;> first | rfl | cases heff
  have hse : isSelect o.op = false := by cases hop : o.op <;> rw [hop] at heff <;> first | rfl | cases heff
  have hdf' : ∀ c, o.op ≠ .defer c := fun c h => by rw [h] at hdf; cases hdf
  rw [sem_real ho hag hse hdf rr, Oper.semAt_eq rr _ o hdf']
  have hwf : ∀ t u, r.la.tmps.get t = some u → t < r.la.n ∧ wfv (uni R Z) u := hrel.tmps.2.2
  have huniq : ∀ r' ∈ fut, r'.i = r.i → r' = r := fun r' hr' e => hinv.uniq r' hr' r hr e
  have hres := hinv.resv
  have hidx := hinv.idx r hr
  cases hkk : r.k with
  | skip =>
    rw [hkk] at hk
    simp only at hk
    rw [hk.1] at hw
    cases hw
  | pure =>
    rw [hkk] at hk
    simp only at hk
    have hrel0 : HRel (uni R Z) ⟨.nil, BIG⟩ w.heap := by
      refine ⟨fun i o hi => (by cases hi), fun i j oi oj hi => (by cases hi), fun i hi => ?_, uni_ext R Z 0 _ hinv.goes.rel.glob.1, hinv.goes.rel.glob.2.1, fun i o hi => (by cases hi)⟩
      have hi' : BIG ≤ i := hi
      unfold uni
      rw [hinv.goes.rel.fresh i (by omega)]
      cases hz : Z i with
      | none => rfl
      | some y =>
        obtain ⟨r', hr', x', g1, g2, g3⟩ := hinv.zdom i y hz
        have := hinv.idx r' hr'
        omega
    refine (Outc.of_run (lop_ok hrel0 (lev_ok hrel0.glob.1 hrel) hk.2)).mono ?_
    rintro vr w' ⟨R', rfl, h2, g⟩
    have := goes_fix hrel0 g
    subst this
    exact ⟨Z, Map.ext_refl _, (hinv.go (Goes.of_keep hinv.goes.rel g.size g.os g.tape g.output fun b hb => g.frame b hb fun i o hi => by cases hi)).mark (fun r' hr' e x hx => by rw [huniq r' hr' e, hkk] at hx; cases hx), rfl, h2⟩
  | read =>
    obtain ⟨hs, o', h, ho', hl, hn⟩ := hread hkk
    rw [ho] at ho'
    simp only [Option.some.injEq] at ho'
    subst ho'
    rw [hkk] at hk
    simp only at hk
    have hh := read_same hk.2 hl hn
    subst hh
    have hown : ∀ t u, r.la.tmps.get t = some u → wfv R u := hinv.own k hwf hs
    have hrelR : ARel R r.la (realOf (uni R Z) r.la a) := by
      rw [realOf_ext (uni_ext R Z) hown a]
      exact realOf_rel k.marks fun t u hu => ⟨(hwf t u hu).1, hown t u hu⟩
    refine (Outc.of_run (lop_ok hinv.goes.rel (lev_ok hinv.goes.rel.glob.1 hrelR) hl)).mono ?_
    rintro vr w' ⟨R', rfl, h2, g⟩
    have := goes_fix hinv.goes.rel g
    subst this
    obtain ⟨h3, h4⟩ := ren_ext (uni_ext R' Z) r.v h2
    exact ⟨Z, Map.ext_refl _, (hinv.go g).mark (fun r' hr' e x hx => by rw [huniq r' hr' e, hkk] at hx; cases hx), h3.symm, h4⟩
  | zero x =>
    rw [hkk] at hk
    simp only at hk
    obtain ⟨_, hpl, h1, hl, hn, hx⟩ := hk
    have hbp := hinv.bpos
    have hrel0 : HRel (one 0 0 0) ⟨.nil, base + r.i⟩ w.heap := ⟨fun i o hi => (by cases hi), fun i j oi oj hi => (by cases hi), fun i hi => (by have hi' : base + r.i ≤ i := hi; simp only [one]; rw [if_neg (by omega)]), rfl, hinv.goes.rel.glob.2.1, fun i o hi => (by cases hi)⟩
    have hplain : ∀ t u, r.la.tmps.get t = some u → plain u = true := fun t u hu => slotsOk_get hpl (k.get hu).1 hu
    have hrelE : ARel (one 0 0 0) r.la (realOf (uni R Z) r.la a) := by
      rw [realOf_ext (U := one 0 0 0) (one_ext (uni_ext R Z 0 _ hinv.goes.rel.glob.1)) (fun t u hu => (plain_ren _ u (hplain t u hu)).2) a]
      exact realOf_rel k.marks fun t u hu => ⟨(hwf t u hu).1, (plain_ren _ u (hplain t u hu)).2⟩
    refine (Outc.of_run (lop_ok hrel0 (lev_ok rfl hrelE) hl)).mono ?_
    rintro vr w' ⟨R', rfl, h2, g⟩
    obtain ⟨h3, h4⟩ := g.rel.ok _ _ hx
    obtain ⟨⟨b, d⟩, hb⟩ := Option.isSome_iff_exists.1 h3
    have hRb : R'.b (base + r.i) = b := by simp [Map.b, hb]
    have hR' : R' = (one 0 0 0).put (base + r.i) b d := by
      funext j
      unfold Map.put
      rcases Nat.lt_trichotomy j (base + r.i) with h | h | h
      · rw [if_neg (by omega), g.old j h]
      · rw [if_pos h, h, hb]
      · rw [if_neg (by omega), g.rel.fresh j (by omega)]
        simp only [one]
        rw [if_neg (by omega)]
    have hge : w.heap.size ≤ b := by
      rcases g.img _ _ hx with ⟨j, o', hj, _⟩ | h5
      · cases hj
      · rw [hRb] at h5; exact h5
    have v' := hinv.go (Goes.of_keep hinv.goes.rel g.size g.os g.tape g.output fun b hb => g.frame b hb fun i o hi => by cases hi)
    rw [hRb, hR'] at h4
    obtain ⟨m1, m2, m3⟩ := v'.made hr hkk hnd (Nat.le_trans hinv.goes.size hge) h4 (fun j oj hj e => by
        have := hinv.goes.rel.img_lt hj
        omega) (fun q y hy e => by
        obtain ⟨r', hr', x', g1, g2, g3⟩ := hinv.zdom q y hy
        obtain ⟨b', d', e1, e2, e3, _⟩ := hinv.zero r' hr' x' g1 g2
        rw [g3, e1] at hy
        simp only [Option.some.injEq] at hy
        subst hy
        simp only at e
        omega)
    have hext : R'.ext (uni R (Z.put (base + r.i) b d)) := by
      rw [hR']
      exact two_ext (uni_ext R _ 0 _ hinv.goes.rel.glob.1) m3
    obtain ⟨h5, h6⟩ := ren_ext hext r.v h2
    exact ⟨_, m2, m1, h5.symm, h6⟩

/-- An effect, when it is its turn. -/
theorem estep (hs : SoundAll P c ih) (hoo : OrcOk P c orc) (hb0 : Base c R0 h0 w0) (hinv : HInv ops base R0 h0 w0 D H fut R Z w) (s : SInv ops all la0 laF defs D (uni R Z) a) {e : Ent} (hnd : ¬ D e.1) (hnf : ∀ r ∈ fut, r.i ≠ e.1) (k : EntOk ops M all la0 laF e)
    (hsl : slotsOk (idsOk (avail base ops.size H)) e.2.1 (looksOf ops e.1) = true) (hm : ∀ j, Nat.testBit (M.getD e.1 0) j = true → D j) (hc : ∀ j, D j → ∀ i, Nat.testBit (M.getD j 0) i = true → D i)
    {o : Oper} (ho : ops[e.1]? = some o) (hse : isSelect o.op = false) {post : LH} (hl : lexec P orc ih e.2.1 H o = some (e.2.2, post)) (rr : Option Nat) :
    Outc (fen rr) P (o.semAt rr a.eval) w (fun vr w' => ∃ R', (uni R Z).ext (uni R' Z) ∧ HInv ops base R0 h0 w0 (fun j => D j ∨ j = e.1) post fut R' Z w' ∧ vr = ren (uni R' Z) e.2.2 ∧ wfv (uni R' Z) e.2.2) := by
  obtain ⟨hrel, hag⟩ := s.real k hnd hm hc
  have hdf : isDefer o.op = false := by
    unfold lexec at hl
    cases hd : isDefer o.op with
    | false => rfl
    | true => rw [hd] at hl; simp at hl
  rw [sem_real ho hag hse hdf rr]
  have hwf : ∀ t u, e.2.1.tmps.get t = some u → t < e.2.1.n ∧ wfv (uni R Z) u := hrel.tmps.2.2
  have hown := hinv.own k hwf hsl
  have hrelR : ARel R e.2.1 (realOf (uni R Z) e.2.1 a) := by
    rw [realOf_ext (uni_ext R Z) hown a]
    exact realOf_rel k.marks fun t u hu => ⟨(hwf t u hu).1, hown t u hu⟩
  refine (lexec_ok hs hoo hinv.goes.rel hrelR (hb0.goes hinv.goes) hl rr).mono ?_
  rintro vr w' ⟨R', rfl, h2, g⟩
  have v' := hinv.go g
  obtain ⟨h3, h4⟩ := ren_ext (uni_ext R' Z) e.2.2 h2
  refine ⟨R', uni_ext_both g.ext fun i y hi hz => ?_, v'.mark (fun r' hr' e' => absurd e' (hnf r' hr')), h3.symm, h4⟩
  obtain ⟨r', hr', x', g1, g2, g3⟩ := hinv.zdom i y hz
  unfold uni
  rw [g3, v'.free r' hr', ← g3]
  exact hz
end
end Go.Proofs.YtedfhallhpkkhaaGreatDoor.X
