/- Regions that draw: one operation, whatever has been done before it, and so the region. Any program. -/
import Derived.Test.YtedfhallhpkkhaaGreatDoorXy
set_option linter.unusedVariables false
set_option linter.unusedSimpArgs false
namespace Go.Proofs.YtedfhallhpkkhaaGreatDoor.X
open Go Go.RowKit

section
variable {P : Program} {c : Ctx} {orc : Orc} {ih : Task → Option Res} {ops : Array Oper} {base : Nat} {R0 : Map} {h0 : LH} {w0 : World} {D : Nat → Prop} {H : LH} {fut : List NRec} {R Z : Map} {w : World}
  {all : List Nat} {la0 laF : LAct} {defs : List Deferred} {a : Act} {M : List Nat}

theorem slotsOk_get {f : Value → Bool} {la : LAct} {ts : List Tmp} (h : slotsOk f la ts = true) {t : Tmp} {v : Value} (ht : t ∈ ts) (hv : la.tmps.get t = some v) : f v = true := by
  have := List.all_eq_true.1 h t ht
  simp only [hv] at this
  exact this
/-- Values whose reserved numbers are there are values of the heap's own map. -/
theorem HInv.own (v : HInv ops base R0 h0 w0 D H fut R Z w) {e : Ent} (k : EntOk ops M all la0 laF e) (hu : ∀ t u, e.2.1.tmps.get t = some u → t < e.2.1.n ∧ wfv (uni R Z) u)
    (hs : slotsOk (idsOk (avail base ops.size H)) e.2.1 (looksOf ops e.1) = true) : ∀ t u, e.2.1.tmps.get t = some u → wfv R u := by
  intro t u hg
  refine idsOk_wf (f := avail base ops.size H) (fun x hx hf => ?_) u (hu t u hg).2 (slotsOk_get hs (k.get hg).1 hg)
  cases hr : R x with
  | some y => rfl
  | none =>
    simp only [uni, hr] at hx
    cases hz : Z x with
    | none => rw [hz] at hx; cases hx
    | some y =>
      obtain ⟨r, hr', x', g1, g2, g3⟩ := v.zdom x y hz
      have h1 := v.idx r hr'
      unfold avail at hf
      rw [bb_ite, bb_ite, if_pos (Nat.ble_eq_true_of_le (by omega)), if_pos (Nat.ble_eq_true_of_le (by omega))] at hf
      cases hg' : H.get x with
      | none => rw [hg'] at hf; cases hf
      | some o => have := (v.goes.rel.ok x o hg').1; rw [hr] at this; exact this
theorem goes_fix {R R' : Map} {H : LH} {w w' : World} (r : HRel R H w.heap) (g : Goes R H w R' H w') : R' = R := by
  funext i
  rcases Nat.lt_or_ge i H.next with h | h
  · exact g.old i h
  · rw [g.rel.fresh i h, r.fresh i h]
theorem nil_get (n i : Nat) : (⟨.nil, n⟩ : LH).get i = none := rfl

/-- An operation without effect, whatever has been done before. -/
theorem nstep (hinv : HInv ops base R0 h0 w0 D H fut R Z w) (s : SInv ops all la0 laF defs D (uni R Z) a) {r : NRec} (hr : r ∈ fut) (hnd : ¬ D r.i) (k : EntOk ops M all la0 laF r.ent) (hok : NOk P ops base r)
    (hread : r.k = .read → slotsOk (idsOk (avail base ops.size H)) r.la (looksOf ops r.i) = true ∧ ∃ o h, ops[r.i]? = some o ∧ lop P (lev r.la) H o = some (r.v, h) ∧ h.next = H.next)
    (hbig : H.next ≤ BIG) (hm : ∀ j, Nat.testBit (M.getD r.i 0) j = true → D j) (hc : ∀ j, D j → ∀ i, Nat.testBit (M.getD j 0) i = true → D i) {o : Oper} (ho : ops[r.i]? = some o) (hw : lwanted ops r.la o = true) (rr : Option Nat) :
    Outc (fen rr) P (o.semAt rr a.eval) w (fun vr w' => ∃ Z', (uni R Z).ext (uni R Z') ∧ HInv ops base R0 h0 w0 (fun j => D j ∨ j = r.i) H fut R Z' w' ∧ vr = ren (uni R Z') r.v ∧ wfv (uni R Z') r.v) := by
  obtain ⟨o', ho', heff, hk⟩ := hok
  rw [ho] at ho'
  simp only [Option.some.injEq] at ho'
  subst ho'
  obtain ⟨hrel, hag⟩ : ARel (uni R Z) r.la (realOf (uni R Z) r.la a) ∧ ∀ t ∈ looksOf ops r.i, a.tmps[t]? = (realOf (uni R Z) r.la a).tmps[t]? := s.real k hnd hm hc
  have hdf : isDefer o.op = false := by cases hop : o.op <;> rw [hop] at heff <;> first | rfl | cases heff
  have hse : isSelect o.op = false := by cases hop : o.op <;> rw [hop] at heff <;> first | rfl | cases heff
  have hdf' : ∀ c, o.op ≠ .defer c := fun c h => by rw [h] at hdf; cases hdf
  rw [sem_real ho hag hse hdf rr, Oper.semAt_eq rr _ o hdf']
  have hwf : ∀ t u, r.la.tmps.get t = some u → t < r.la.n ∧ wfv (uni R Z) u := hrel.tmps.2.2
  have huniq : ∀ r' ∈ fut, r'.i = r.i → r' = r := fun r' hr' e => hinv.uniq r' hr' r hr e
  have hres := hinv.resv
  have hidx := hinv.idx r hr
  cases hkk : r.k with
  | skip =>
    rw [hkk] at hk
    simp only at hk
    rw [hk.1] at hw
    cases hw
  | pure =>
    rw [hkk] at hk
    simp only at hk
    have hrel0 : HRel (uni R Z) ⟨.nil, BIG⟩ w.heap := by
      refine ⟨fun i o hi => (by cases hi), fun i j oi oj hi => (by cases hi), fun i hi => ?_, uni_ext R Z 0 _ hinv.goes.rel.glob.1, hinv.goes.rel.glob.2.1, fun i o hi => (by cases hi)⟩
      have hi' : BIG ≤ i := hi
      unfold uni
      rw [hinv.goes.rel.fresh i (by omega)]
      cases hz : Z i with
      | none => rfl
      | some y =>
        obtain ⟨r', hr', x', g1, g2, g3⟩ := hinv.zdom i y hz
        have := hinv.idx r' hr'
        omega
    refine (Outc.of_run (lop_ok hrel0 (lev_ok hrel0.glob.1 hrel) hk.2)).mono ?_
    rintro vr w' ⟨R', rfl, h2, g⟩
    have := goes_fix hrel0 g
    subst this
    exact ⟨Z, Map.ext_refl _, (hinv.go (Goes.of_keep hinv.goes.rel g.size g.os g.tape g.output fun b hb => g.frame b hb fun i o hi => by cases hi)).mark (fun r' hr' e x hx => by rw [huniq r' hr' e, hkk] at hx; cases hx), rfl, h2⟩
  | read =>
    obtain ⟨hs, o', h, ho', hl, hn⟩ := hread hkk
    rw [ho] at ho'
    simp only [Option.some.injEq] at ho'
    subst ho'
    rw [hkk] at hk
    simp only at hk
    have hh := read_same hk.2 hl hn
    subst hh
    have hown : ∀ t u, r.la.tmps.get t = some u → wfv R u := hinv.own k hwf hs
    have hrelR : ARel R r.la (realOf (uni R Z) r.la a) := by
      rw [realOf_ext (uni_ext R Z) hown a]
      exact realOf_rel k.marks fun t u hu => ⟨(hwf t u hu).1, hown t u hu⟩
    refine (Outc.of_run (lop_ok hinv.goes.rel (lev_ok hinv.goes.rel.glob.1 hrelR) hl)).mono ?_
    rintro vr w' ⟨R', rfl, h2, g⟩
    have := goes_fix hinv.goes.rel g
    subst this
    obtain ⟨h3, h4⟩ := ren_ext (uni_ext R' Z) r.v h2
    exact ⟨Z, Map.ext_refl _, (hinv.go g).mark (fun r' hr' e x hx => by rw [huniq r' hr' e, hkk] at hx; cases hx), h3.symm, h4⟩
  | zero x =>
    rw [hkk] at hk
    simp only at hk
    obtain ⟨_, hpl, h1, hl, hn, hx⟩ := hk
    have hbp := hinv.bpos
    have hrel0 : HRel (one 0 0 0) ⟨.nil, base + r.i⟩ w.heap := ⟨fun i o hi => (by cases hi), fun i j oi oj hi => (by cases hi), fun i hi => (by have hi' : base + r.i ≤ i := hi; simp only [one]; rw [if_neg (by omega)]), rfl, hinv.goes.rel.glob.2.1, fun i o hi => (by cases hi)⟩
    have hplain : ∀ t u, r.la.tmps.get t = some u → plain u = true := fun t u hu => slotsOk_get hpl (k.get hu).1 hu
    have hrelE : ARel (one 0 0 0) r.la (realOf (uni R Z) r.la a) := by
      rw [realOf_ext (U := one 0 0 0) (one_ext (uni_ext R Z 0 _ hinv.goes.rel.glob.1)) (fun t u hu => (plain_ren _ u (hplain t u hu)).2) a]
      exact realOf_rel k.marks fun t u hu => ⟨(hwf t u hu).1, (plain_ren _ u (hplain t u hu)).2⟩
    refine (Outc.of_run (lop_ok hrel0 (lev_ok rfl hrelE) hl)).mono ?_
    rintro vr w' ⟨R', rfl, h2, g⟩
    obtain ⟨h3, h4⟩ := g.rel.ok _ _ hx
    obtain ⟨⟨b, d⟩, hb⟩ := Option.isSome_iff_exists.1 h3
    have hRb : R'.b (base + r.i) = b := by simp [Map.b, hb]
    have hR' : R' = (one 0 0 0).put (base + r.i) b d := by
      funext j
      unfold Map.put
      rcases Nat.lt_trichotomy j (base + r.i) with h | h | h
      · rw [if_neg (by omega), g.old j h]
      · rw [if_pos h, h, hb]
      · rw [if_neg (by omega), g.rel.fresh j (by omega)]
        simp only [one]
        rw [if_neg (by omega)]
    have hge : w.heap.size ≤ b := by
      rcases g.img _ _ hx with ⟨j, o', hj, _⟩ | h5
      · cases hj
      · rw [hRb] at h5; exact h5
    have v' := hinv.go (Goes.of_keep hinv.goes.rel g.size g.os g.tape g.output fun b hb => g.frame b hb fun i o hi => by cases hi)
    rw [hRb, hR'] at h4
    obtain ⟨m1, m2, m3⟩ := v'.made hr hkk hnd (Nat.le_trans hinv.goes.size hge) h4 (fun j oj hj e => by
        have := hinv.goes.rel.img_lt hj
        omega) (fun q y hy e => by
        obtain ⟨r', hr', x', g1, g2, g3⟩ := hinv.zdom q y hy
        obtain ⟨b', d', e1, e2, e3, _⟩ := hinv.zero r' hr' x' g1 g2
        rw [g3, e1] at hy
        simp only [Option.some.injEq] at hy
        subst hy
        simp only at e
        omega)
    have hext : R'.ext (uni R (Z.put (base + r.i) b d)) := by
      rw [hR']
      exact two_ext (uni_ext R _ 0 _ hinv.goes.rel.glob.1) m3
    obtain ⟨h5, h6⟩ := ren_ext hext r.v h2
    exact ⟨_, m2, m1, h5.symm, h6⟩

/-- An effect, when it is its turn. -/
theorem estep (hs : SoundAll P c ih) (hoo : OrcOk P c orc) (hb0 : Base c R0 h0 w0) (hinv : HInv ops base R0 h0 w0 D H fut R Z w) (s : SInv ops all la0 laF defs D (uni R Z) a) {e : Ent} (hnd : ¬ D e.1) (hnf : ∀ r ∈ fut, r.i ≠ e.1) (k : EntOk ops M all la0 laF e)
    (hsl : slotsOk (idsOk (avail base ops.size H)) e.2.1 (looksOf ops e.1) = true) (hm : ∀ j, Nat.testBit (M.getD e.1 0) j = true → D j) (hc : ∀ j, D j → ∀ i, Nat.testBit (M.getD j 0) i = true → D i)
    {o : Oper} (ho : ops[e.1]? = some o) (hse : isSelect o.op = false) {post : LH} (hl : lexec P orc ih e.2.1 H o = some (e.2.2, post)) (rr : Option Nat) :
    Outc (fen rr) P (o.semAt rr a.eval) w (fun vr w' => ∃ R', (uni R Z).ext (uni R' Z) ∧ HInv ops base R0 h0 w0 (fun j => D j ∨ j = e.1) post fut R' Z w' ∧ vr = ren (uni R' Z) e.2.2 ∧ wfv (uni R' Z) e.2.2) := by
  obtain ⟨hrel, hag⟩ := s.real k hnd hm hc
  have hdf : isDefer o.op = false := by
    unfold lexec at hl
    cases hd : isDefer o.op with
    | false => rfl
    | true => rw [hd] at hl; simp at hl
  rw [sem_real ho hag hse hdf rr]
  have hwf : ∀ t u, e.2.1.tmps.get t = some u → t < e.2.1.n ∧ wfv (uni R Z) u := hrel.tmps.2.2
  have hown := hinv.own k hwf hsl
  have hrelR : ARel R e.2.1 (realOf (uni R Z) e.2.1 a) := by
    rw [realOf_ext (uni_ext R Z) hown a]
    exact realOf_rel k.marks fun t u hu => ⟨(hwf t u hu).1, hown t u hu⟩
  refine (lexec_ok hs hoo hinv.goes.rel hrelR (hb0.goes hinv.goes) hl rr).mono ?_
  rintro vr w' ⟨R', rfl, h2, g⟩
  have v' := hinv.go g
  obtain ⟨h3, h4⟩ := ren_ext (uni_ext R' Z) e.2.2 h2
  refine ⟨R', uni_ext_both g.ext fun i y hi hz => ?_, v'.mark (fun r' hr' e' => absurd e' (hnf r' hr')), h3.symm, h4⟩
  obtain ⟨r', hr', x', g1, g2, g3⟩ := hinv.zdom i y hz
  unfold uni
  rw [g3, v'.free r' hr', ← g3]
  exact hz
end
end Go.Proofs.YtedfhallhpkkhaaGreatDoor.X
