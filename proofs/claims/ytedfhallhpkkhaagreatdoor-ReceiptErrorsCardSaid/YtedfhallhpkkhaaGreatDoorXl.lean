/- What the local run says is what the model does: the words of the soundness theorem, and one operation. Any program. -/
import Derived.Test.YtedfhallhpkkhaaGreatDoorXk
import Derived.Below
set_option linter.unusedVariables false
set_option linter.unusedSimpArgs false
namespace Go.Proofs.YtedfhallhpkkhaaGreatDoor.X
open Go Go.RowKit

/-- Where a run begins: what lies below N0 in w0 stays. -/
structure Ctx where
  N0 : Nat
  w0 : World
structure Base (c : Ctx) (R : Map) (h : LH) (w : World) : Prop where
  low : ∀ i o, h.get i = some o → c.N0 ≤ R.b i
  below : Below c.N0 c.w0 w
  size : c.N0 ≤ w.heap.size
theorem Base.goes {c : Ctx} {R R' : Map} {h h' : LH} {w w' : World} (b : Base c R h w) (g : Goes R h w R' h' w') : Base c R' h' w' := by
  refine ⟨fun i o hi => ?_, ⟨g.os.trans b.below.os, g.tape.trans b.below.tape, g.output.trans b.below.output, Nat.le_trans b.below.size g.size, fun k hk => ?_⟩, Nat.le_trans b.size g.size⟩
  · rcases g.img i o hi with ⟨j, o', hj, hb⟩ | hge
    · rw [← hb]; exact b.low j o' hj
    · exact Nat.le_trans b.size hge
  · rw [g.frame k (Nat.lt_of_lt_of_le hk b.size) (fun i o hi e => by have := b.low i o hi; omega)]
    exact b.below.block k hk

theorem HRel.img_lt {R : Map} {h : LH} {H : Array Obj} (r : HRel R h H) {i : Nat} {o : LO} (hi : h.get i = some o) : R.b i < H.size := by
  obtain ⟨_, h2⟩ := r.ok i o hi
  rcases Nat.lt_or_ge (R.b i) H.size with h3 | h3
  · exact h3
  · rw [Array.getElem?_eq_none h3] at h2
    cases o with
    | cells => obtain ⟨_, _, _, h4, _⟩ := h2; cases h4
    | map => simp only [ORel] at h2; cases h2.1
    | loop => obtain ⟨_, _, h4, _⟩ := h2; cases h4
    | obj => simp only [ORel] at h2; cases h2.1
def OrcOk (P : Program) (c : Ctx) (orc : Orc) : Prop :=
  ∀ f g args v w, orc f = some g → plainL args = true → g args = some v → plain v = true → Below c.N0 c.w0 w → Calls P f args.toArray w (fun e w' => e = .returned v ∧ Below w.heap.size w w')

/-- The temporaries on both sides. -/
structure ARel (R : Map) (la : LAct) (a : Act) : Prop where
  tmps : TRel R la.tmps la.n a.tmps
  defers : a.defers = la.marks.map (fun i => ({ target := .collected (R.b i), args := #[] } : Deferred))
  marks : ∀ i ∈ la.marks, (R i).isSome = true
theorem ARel.ext {R R' : Map} {la : LAct} {a : Act} (h : R.ext R') (r : ARel R la a) : ARel R' la a := by
  refine ⟨r.tmps.ext h, ?_, fun i hi => Map.ext_isSome h (r.marks i hi)⟩
  rw [r.defers]
  apply List.map_congr_left
  intro i hi
  rw [Map.ext_b h (r.marks i hi)]
theorem lev_ok {R : Map} {la : LAct} {a : Act} (hg : R 0 = some (0, 0)) (r : ARel R la a) : Reads R (lev la) a.eval := by
  intro x v hv
  obtain ⟨h1, h2, h3⟩ := r.tmps
  cases x with
  | tmp t =>
    simp only [lev, Option.some.injEq] at hv
    subst hv
    simp only [Act.eval]
    rcases Nat.lt_or_ge t la.n with ht | ht
    · have := h2 t ht
      refine ⟨by simp only [Array.getD_eq_getD_getElem?, this, Option.getD_some], ?_⟩
      cases hg : la.tmps.get t with
      | none => exact wf_undef R
      | some u => exact (h3 t u hg).2
    · have hn : la.tmps.get t = none := by
        cases hg : la.tmps.get t with
        | none => rfl
        | some u => have := (h3 t u hg).1; omega
      rw [hn, Option.getD_none]
      refine ⟨?_, wf_undef R⟩
      rw [Array.getD_eq_getD_getElem?, Array.getElem?_eq_none (by omega)]
      rfl
  | const u =>
    simp only [lev] at hv
    split at hv
    case isFalse => cases hv
    rename_i hp
    simp only [Option.some.injEq] at hv
    subst hv
    exact ⟨(plain_ren R u hp).1.symm, (plain_ren R u hp).2⟩
  | global g =>
    simp only [lev] at hv
    split at hv
    case isFalse => cases hv
    rename_i h0
    simp only [Option.some.injEq] at hv
    subst hv
    subst h0
    refine ⟨?_, ?_⟩
    · simp [Act.eval, ren, Map.b, hg]
    · simp [wfv, hg]
  | func f =>
    simp only [lev, Option.some.injEq] at hv
    subst hv
    exact ⟨rfl, trivial, trivial, trivial⟩
theorem put_ok {R : Map} {la la' : LAct} {a : Act} {dst : Option Tmp} {v : Value} (r : ARel R la a) (hv : wfv R v) (hp : la.put dst v = some la') : ARel R la' (a.put dst (ren R v)) := by
  unfold LAct.put at hp
  obtain ⟨lt, ln, lm⟩ := la
  cases dst with
  | none => simp only [Option.some.injEq] at hp; subst hp; exact r
  | some d =>
    simp only at hp
    split at hp
    case isFalse => cases hp
    rename_i hd
    simp only [Option.some.injEq] at hp
    subst hp
    obtain ⟨h1, h2, h3⟩ := r.tmps
    refine ⟨⟨by simpa [Act.put] using h1, fun k hk => ?_, fun k u hk => ?_⟩, r.defers, r.marks⟩
    · simp only [Act.put, T.get_set]
      by_cases he : k = d
      · subst he
        simp only [if_true, Option.getD_some]
        have hk' : k < ln := hk
        have h1' : a.tmps.size = ln := h1
        rw [Array.getElem?_setIfInBounds_self_of_lt (by omega)]
      · rw [if_neg he, Array.getElem?_setIfInBounds_ne (fun e => he e.symm)]
        exact h2 k hk
    · rw [T.get_set] at hk
      by_cases he : k = d
      · subst he
        simp only [if_true, Option.some.injEq] at hk
        subst hk
        exact ⟨hd, hv⟩
      · rw [if_neg he] at hk
        exact h3 k u hk
theorem ren_bool {R : Map} {v : Value} {b : Bool} : ren R v = .bool b ↔ v = .bool b := by
  cases v with
  | pointer a => cases a <;> simp [ren]
  | slice a l c => cases a <;> simp [ren]
  | map a => cases a <;> simp [ren]
  | _ => simp [ren]
theorem lyielded_ok {R : Map} {la : LAct} {a : Act} (r : ARel R la a) (ops : Array Oper) (j : Nat) : yielded ops a.tmps j = lyielded ops la j := by
  unfold yielded lyielded
  cases hd : (ops[j]?).bind (·.dst) with
  | none => rfl
  | some t =>
    simp only [Option.bind_some]
    obtain ⟨h1, h2, h3⟩ := r.tmps
    cases hg : la.tmps.get t with
    | none =>
      rcases Nat.lt_or_ge t la.n with ht | ht
      · rw [h2 t ht, hg]; rfl
      · rw [Array.getElem?_eq_none (by omega)]
    | some v =>
      rw [h2 t (h3 t v hg).1, hg, Option.getD_some]
      cases v with
      | pointer a => cases a <;> rfl
      | slice a l c => cases a <;> rfl
      | map a => cases a <;> rfl
      | _ => rfl
theorem lwanted_ok {R : Map} {la : LAct} {a : Act} (r : ARel R la a) (ops : Array Oper) (o : Oper) : Region.wanted o (yielded ops a.tmps) = lwanted ops la o := by
  unfold Region.wanted lwanted
  cases o.guard with
  | none => rfl
  | some g => simp only [lyielded_ok r]

/-- The fence of no bound, in a round or not. -/
def fen (rr : Option Nat) : Fence := { Fence.wide with round := rr }
theorem fen_fn (rr : Option Nat) (f : FuncId) : (fen rr).fn f := trivial
theorem fen_depth (rr : Option Nat) : (fen rr).depth = none := rfl

def LExit.real : LExit → Exit
  | .normal => .normal
  | .exit id => .exit id
  | .ret => .ret

def CallPost (R : Map) (h : LH) (w : World) (v : Value) (h' : LH) (e : Ending) (w' : World) : Prop := ∃ R', e = .returned (ren R' v) ∧ wfv R' v ∧ Goes R h w R' h' w'
def CodePost (R : Map) (h : LH) (w : World) (e : LExit) (a' : LAct) (h' : LH) (er : Exit) (ar' : Act) (w' : World) : Prop := er = e.real ∧ ∃ R', Goes R h w R' h' w' ∧ ARel R' a' ar'
/-- A loop from its round's begin on. -/
def loopIn (F : Fence) (n : Nat) (P : Program) (k : Code) (Q : Exit → Act → World → Prop) (a : Act) (w : World) : Prop :=
  ∀ (b : Frame) (todo : List Item) (cs : List Frame), b.roundOf = F.round → F.fn b.fn → F.room (cs.length + 1 + n) →
    ∃ e a' w', Q e a' w' ∧ ArrivesIn (Machine.fenced P F) P (lone (b.atR a (.code k :: .inLoop k :: todo)) cs w) b todo cs e a' w'
theorem loopIn_wp {F : Fence} {n : Nat} {P : Program} {k : Code} {Q : Exit → Act → World → Prop} {a : Act} {w : World} (h : loopIn F n P k Q a w) : (Code.loop k).wpIn F n P Q a w := by
  intro b todo cs hro hb hr
  obtain ⟨e, a', w', hq, harr⟩ := h b todo cs hro hb hr
  exact ⟨e, a', w', hq, .of_steps (.one (fenced_calm hb hr rfl) stepR_loop) harr⟩
theorem loopIn_round {F : Fence} {n : Nat} {P : Program} {k : Code} {Q : Exit → Act → World → Prop} {a : Act} {w : World} (h : k.wpIn F n P (Exit.then (loopIn F n P k Q) Q) a w) : loopIn F n P k Q a w := by
  intro b todo cs hro hb hr
  obtain ⟨e, a₁, w₁, hq, harr⟩ := h b (.inLoop k :: todo) cs hro hb hr
  cases e with
  | normal =>
    obtain ⟨e₂, a₂, w₂, hq₂, harr₂⟩ := hq b todo cs hro hb hr
    exact ⟨e₂, a₂, w₂, hq₂, .of_steps (StepsIn.trans harr (.one (fenced_calm hb hr rfl) stepR_inLoop)) harr₂⟩
  | exit id => exact ⟨_, a₁, w₁, hq, .pass (x := .inLoop k) rfl (fun _ _ => .inl (by simp)) harr⟩
  | goto l => exact ⟨_, a₁, w₁, hq, .pass (x := .inLoop k) rfl (fun _ _ => .inl (by simp)) harr⟩
  | ret => exact ⟨_, a₁, w₁, hq, .pass (x := .inLoop k) rfl (fun _ _ => .inl (by simp)) harr⟩
  | panic ch => exact ⟨_, a₁, w₁, hq, .pass (x := .inLoop k) rfl (fun _ _ => .inl (by simp)) harr⟩
  | outgrown => exact ⟨_, a₁, w₁, hq, .pass (x := .inLoop k) rfl (fun _ _ => .inl (by simp)) harr⟩
def SoundCode (F : Fence) (P : Program) (k : Code) (Q : Exit → Act → World → Prop) (a : Act) (w : World) : Prop :=
  match k with
  | .loop c => loopIn F 0 P c Q a w
  | k => k.wpIn F 0 P Q a w
theorem SoundCode.wp {F : Fence} {P : Program} {k : Code} {Q : Exit → Act → World → Prop} {a : Act} {w : World} (h : SoundCode F P k Q a w) : k.wpIn F 0 P Q a w := by
  unfold SoundCode at h
  split at h
  · exact loopIn_wp h
  · exact h
def Sound (P : Program) (c : Ctx) : Task → Res → Prop
  | .code ro k a h, .code e a' h' => ∀ R ar w, HRel R h w.heap → ARel R a ar → Base c R h w → (∀ l, ro = some l → (R l).isSome = true) → SoundCode (fen (ro.map R.b)) P k (CodePost R h w e a' h') ar w
  | .call f args h, .val v h' => ∀ R w, HRel R h w.heap → wfL R args → Base c R h w → CallsIn Fence.wide 0 P f (args.map (ren R)).toArray w (CallPost R h w v h')
  | .round l args h, .val v h' => ∀ R w, HRel R h w.heap → wfL R args → Base c R h w → (R l).isSome = true →
      ∃ f tmps assign body, (Instr.yield (R.b l) (args.map (ren R)).toArray).run P w = .ok (.round (R.b l) f tmps assign body) w ∧ RoundIn Fence.wide 0 P (R.b l) f tmps assign body w (CallPost R h w v h')
  | _, _ => False
def SoundAll (P : Program) (c : Ctx) (ih : Task → Option Res) : Prop := ∀ t r, ih t = some r → Sound P c t r

/-- What one operation, or one call, comes to. -/
def Outc (F : Fence) (P : Program) (s : Sem Next) (w : World) (K : Value → World → Prop) : Prop :=
  match s.run P w with
  | .ok (.value v) w' => K v w'
  | .ok .skip w' => K undef w'
  | .ok (.enter f args) w' => CallsIn F 0 P f args w' (fun e w'' => ∃ v, e = .returned v ∧ K v w'')
  | .ok (.round l f tmps assign body) w' => RoundIn F 0 P l f tmps assign body w' (fun e w'' => ∃ v, e = .returned v ∧ K v w'')
  | _ => False
theorem Outc.upon {rr : Option Nat} {P : Program} {o : Oper} {a : Act} {s : Sem Next} {w : World} {K : Value → World → Prop} {next : Act → World → Prop} {Q : Exit → Act → World → Prop}
    (h : Outc (fen rr) P s w K) (hk : ∀ v w', K v w' → next (a.put o.dst v) w') : o.uponIn (fen rr) 0 P a next Q (s.run P w) := by
  unfold Outc at h
  generalize s.run P w = r at h ⊢
  cases r with
  | halt x w' => cases x <;> exact h.elim
  | ok n w' =>
    cases n <;> simp only [Oper.uponIn] at h ⊢
    case value v => exact hk _ _ h
    case skip => exact hk _ _ h
    case enter f args =>
      refine ⟨fun hd => by simp [fen, Fence.wide] at hd, h.mono ?_⟩
      rintro e w'' ⟨v, rfl, hv⟩
      exact hk _ _ hv
    case round l f tmps assign body =>
      refine ⟨fun hd => by simp [fen, Fence.wide] at hd, h.mono ?_⟩
      rintro e w'' ⟨v, rfl, hv⟩
      exact hk _ _ hv
    all_goals exact h.elim
theorem Outc.of_run {F : Fence} {P : Program} {R : Map} {h h' : LH} {w : World} {s : Sem Next} {v : Value} (k : OpRun P R h w s v h') : Outc F P s w (fun vr w' => ∃ R', vr = ren R' v ∧ wfv R' v ∧ Goes R h w R' h' w') := by
  obtain ⟨R', w', h1 | ⟨h1, rfl⟩, h2, h3⟩ := k
  · unfold Outc; rw [h1]; exact ⟨R', rfl, h2, h3⟩
  · unfold Outc; rw [h1]; exact ⟨R', rfl, h2, h3⟩

theorem wfL_append {R : Map} {l l' : List Value} : wfL R (l ++ l') ↔ wfL R l ∧ wfL R l' := by
  simp only [wfL_iff, List.mem_append]
  exact ⟨fun h => ⟨fun v hv => h v (.inl hv), fun v hv => h v (.inr hv)⟩, fun h v hv => hv.elim (h.1 v) (h.2 v)⟩
theorem wfA_toList {R : Map} {a : Array Value} : wfA R a ↔ wfL R a.toList := by cases a; exact Iff.rfl
theorem plainL_iff (l : List Value) : plainL l = true ↔ ∀ v ∈ l, plain v = true := by
  induction l with
  | nil => simp [plainL]
  | cons v l ih => simp [plainL, ih]

section
variable {P : Program} {c : Ctx} {orc : Orc} {ih : Task → Option Res}
/-- A function of the program, entered, or known from elsewhere, or of the model's own rows. -/
theorem lfun_ok (hs : SoundAll P c ih) (ho : OrcOk P c orc) {R : Map} {h h' : LH} {w : World} {f : FuncId} {args : List Value} {v : Value} (r : HRel R h w.heap) (hw : wfL R args) (b : Base c R h w)
    (hv : lfun P orc ih h f args = some (v, h')) (rr : Option Nat) : Outc (fen rr) P (callFunc f (args.map (ren R)).toArray) w (fun vr w' => ∃ R', vr = ren R' v ∧ wfv R' v ∧ Goes R h w R' h' w') := by
  unfold lfun at hv
  have enters : isPlainFn P f = true → ∀ args', (callFunc f args').run P w = .ok (.enter f args') w := by
    intro hp args'
    unfold isPlainFn at hp
    unfold callFunc
    split at hp
    · rename_i fn hf
      simp only [Bool.and_eq_true, Bool.not_eq_true'] at hp
      have hnone : fn.body.isNone = false := by cases hb : fn.body <;> simp_all
      simp only [Sem.run_bind, run_program, Result.andThen_ok, hf, hp.1, hnone, Bool.false_eq_true, if_false, Sem.run_pure]
    · cases hp
  cases hg : orc f with
  | some g =>
    rw [hg] at hv
    simp only at hv
    split at hv
    case isFalse => cases hv
    rename_i hp
    split at hv
    case h_2 => cases hv
    rename_i u hu
    split at hv
    case isFalse => cases hv
    rename_i hpu
    simp only [Option.some.injEq, Prod.mk.injEq] at hv
    obtain ⟨rfl, rfl⟩ := hv
    have hc := ho f g args u w hg hp.2 hu hpu b.below
    have hargs : args.map (ren R) = args := by
      have := (plainL_ren R args hp.2).1
      rwa [renL_eq] at this
    rw [hargs]
    have hfp := enters hp.1 args.toArray
    unfold Outc
    rw [hfp]
    refine CallsIn.mono ((callsIn_wide (n := 0)).2 hc) ?_
    rintro e w' ⟨rfl, hb⟩
    obtain ⟨h1, h2⟩ := plain_ren R u hpu
    refine ⟨u, rfl, R, h1.symm, h2, Map.ext_refl R, fun _ _ => rfl, ⟨fun i o hi => ?_, r.inj, r.fresh, r.glob.1, r.glob.2.1.of (hb.block 0 r.glob.2.1.pos), r.glob.2.2⟩, Nat.le_refl _, hb.size, hb.os, hb.tape, hb.output, fun k hk _ => hb.block k hk, fun i o hi => .inl ⟨i, o, hi, rfl⟩⟩
    obtain ⟨h3, h4⟩ := r.ok i o hi
    refine ⟨h3, ?_⟩
    rw [hb.block _ (r.img_lt hi)]
    exact h4
  | none =>
    rw [hg] at hv
    simp only at hv
    split at hv
    · rename_i hp
      split at hv
      · rename_i u k hk
        simp only [Option.some.injEq, Prod.mk.injEq] at hv
        obtain ⟨rfl, rfl⟩ := hv
        have := hs _ _ hk R w r hw b
        unfold Outc
        rw [enters hp]
        refine CallsIn.mono (F := fen rr) this ?_
        rintro e w' ⟨R', rfl, h2, h3⟩
        exact ⟨_, rfl, R', rfl, h2, h3⟩
      · cases hv
    · split at hv
      case isFalse => cases hv
      rename_i hp
      split at hv
      case h_2 => cases hv
      rename_i u hu
      split at hv
      case isFalse => cases hv
      rename_i hpu
      simp only [Option.some.injEq, Prod.mk.injEq] at hv
      obtain ⟨rfl, rfl⟩ := hv
      have hargs : args.map (ren R) = args := by
        have := (plainL_ren R args hp).1
        rwa [renL_eq] at this
      rw [hargs]
      unfold Outc
      rw [runP_run hu w]
      obtain ⟨h1, h2⟩ := plain_ren R u hpu
      exact ⟨R, h1.symm, h2, Goes.refl r⟩
end
end Go.Proofs.YtedfhallhpkkhaaGreatDoor.X
