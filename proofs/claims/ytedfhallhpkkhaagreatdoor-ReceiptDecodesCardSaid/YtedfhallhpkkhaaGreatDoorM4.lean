/- The executor is right, regions that draw included; contracts out of local runs. -/
import Derived.Test.YtedfhallhpkkhaaGreatDoorM3
import Derived.Test.YtedfhallhpkkhaaGreatDoorM2
set_option linter.unusedVariables false
set_option linter.unusedSimpArgs false
/- Regions that draw: the local run is right in every order. Any program. -/
namespace Go.Proofs.YtedfhallhpkkhaaGreatDoor.X
open Go Go.RowKit

def Dl (listed : Array Bool) (j : Nat) : Prop := listed.getD j false = true
theorem Dl_set {listed : Array Bool} {i : Nat} (h : i < listed.size) : Dl (listed.setIfInBounds i true) = fun j => Dl listed j ∨ j = i := by
  funext j
  apply propext
  unfold Dl
  by_cases he : j = i
  · subst he
    simp [Array.getD_eq_getD_getElem?, Array.getElem?_setIfInBounds_self_of_lt h]
  · simp only [he, or_false, Array.getD_eq_getD_getElem?]
    rw [Array.getElem?_setIfInBounds_ne (fun e => he e.symm)]

structure Plan (ops : Array Oper) (M all : List Nat) : Prop where
  mem : ∀ i, i < ops.size → i ∈ all
  lt : ∀ i ∈ all, i < ops.size
  nodup : all.Nodup
  len : all.length ≤ ops.size
  uniq : ∀ i ∈ all, ∀ j ∈ all, ∀ t, dstOf ops i = some t → dstOf ops j = some t → j = i
  mask : ∀ i, i < ops.size → ∃ o, ops[i]? = some o ∧ (∀ j, Nat.testBit (M.getD i 0) j = true → ∃ e ∈ o.after.toList, Region.binds .any e = true ∧ (j = e.on ∨ Nat.testBit (M.getD e.on 0) j = true)) ∧ ∀ e ∈ o.after.toList, Region.binds .any e = true → e.on < i
theorem dist_all {ops : Array Oper} : ∀ {l : List Nat}, dist ops l = true → l.Nodup ∧ ∀ i ∈ l, ∀ j ∈ l, ∀ t, dstOf ops i = some t → dstOf ops j = some t → j = i
  | [], _ => ⟨List.nodup_nil, fun i hi => by cases hi⟩
  | x :: l, h => by
    obtain ⟨h1, h2⟩ := dist_spec h
    obtain ⟨h3, h4⟩ := dist_all h2
    refine ⟨List.nodup_cons.2 ⟨fun hx => (h1 x hx).1 rfl, h3⟩, fun i hi j hj t hit hjt => ?_⟩
    rcases List.mem_cons.1 hi with hi | hi
    · rcases List.mem_cons.1 hj with hj | hj
      · rw [hi, hj]
      · rw [hi] at hit; exact absurd hjt ((h1 j hj).2 t hit)
    · rcases List.mem_cons.1 hj with hj | hj
      · rw [hj] at hjt; exact absurd hit ((h1 i hi).2 t hjt)
      · exact h4 i hi j hj t hit hjt
theorem maskOf_spec {M : List Nat} : ∀ {l : List Edge} {j : Nat}, Nat.testBit (maskOf M l) j = true → ∃ e ∈ l, Region.binds .any e = true ∧ (j = e.on ∨ Nat.testBit (M.getD e.on 0) j = true)
  | [], j, h => by
    have : Nat.testBit 0 j = true := h
    simp at this
  | e :: l, j, h => by
    have h' : Nat.testBit (bb (Region.binds .any e) (Nat.lor (Nat.lor (maskOf M l) (Nat.pow 2 e.on)) (M.getD e.on 0)) (maskOf M l)) j = true := h
    rw [bb_ite] at h'
    split at h'
    · rename_i hb
      have h2 : Nat.testBit ((maskOf M l ||| 2 ^ e.on) ||| M.getD e.on 0) j = true := h'
      simp only [Nat.testBit_or, Bool.or_eq_true, Nat.testBit_two_pow, decide_eq_true_eq] at h2
      rcases h2 with (h2 | h2) | h2
      · obtain ⟨e', he', h3⟩ := maskOf_spec h2
        exact ⟨e', by simp [he'], h3⟩
      · exact ⟨e, by simp, hb, .inl h2.symm⟩
      · exact ⟨e, by simp, hb, .inr h2⟩
    · obtain ⟨e', he', h3⟩ := maskOf_spec h'
      exact ⟨e', by simp [he'], h3⟩
theorem plan_of {ops : Array Oper} {s : Segs} {last : List Nat} (h : planOk ops s last = true) : Plan ops (masks ops) (flat s last) ∧ ord ops (masks ops) [] (flat s last) = true ∧ dist ops (flat s last) = true ∧ segOk (masks ops) s = true := by
  simp only [planOk, Bool.and_eq_true, List.all_eq_true, List.mem_range, List.contains_iff_mem, decide_eq_true_eq] at h
  obtain ⟨⟨⟨⟨⟨h1, h2⟩, h3⟩, h4⟩, hlen⟩, h5⟩ := h
  obtain ⟨h6, h7⟩ := dist_all h3
  refine ⟨⟨fun i hi => (h1 i hi).1, h5, h6, hlen, h7, fun i hi => ?_⟩, h2, h3, h4⟩
  have := (h1 i hi).2
  unfold maskOk at this
  split at this
  case h_2 => cases this
  rename_i o ho
  simp only [Bool.and_eq_true, beq_iff_eq, List.all_eq_true, Bool.or_eq_true, Bool.not_eq_true', decide_eq_true_eq] at this
  refine ⟨o, ho, fun j hj => ?_, fun e he hb => ?_⟩
  · rw [this.1] at hj
    exact maskOf_spec hj
  · rcases this.2 e he with h8 | h8
    · rw [hb] at h8; cases h8
    · exact h8

theorem filter_lt {p q : Nat → Bool} : ∀ {l : List Nat} {i : Nat}, i ∈ l → p i = true → q i = false → (∀ j, q j = true → p j = true) → (l.filter q).length < (l.filter p).length
  | x :: l, i, hi, hp, hq, hm => by
    have hle : ∀ l : List Nat, (l.filter q).length ≤ (l.filter p).length := fun l => by
      induction l with
      | nil => exact Nat.le_refl _
      | cons y l ih =>
        cases hqy : q y with
        | true => simp only [List.filter_cons, hqy, hm y hqy, if_true, List.length_cons]; omega
        | false =>
          simp only [List.filter_cons, hqy, Bool.false_eq_true, if_false]
          split
          · simp only [List.length_cons]; omega
          · exact ih
    by_cases he : i = x
    · subst he
      simp only [List.filter_cons, hp, hq, if_true, Bool.false_eq_true, if_false, List.length_cons]
      exact Nat.lt_succ_of_le (hle l)
    · have ih := filter_lt (l := l) ((List.mem_cons.1 hi).resolve_left he) hp hq hm
      cases hqx : q x with
      | true => simp only [List.filter_cons, hqx, hm x hqx, if_true, List.length_cons]; omega
      | false =>
        simp only [List.filter_cons, hqx, Bool.false_eq_true, if_false]
        split
        · simp only [List.length_cons]; omega
        · exact ih
theorem segOk_spec {M : List Nat} {s : List Nat × Nat} {rest : Segs} (h : segOk M (s :: rest) = true) : (∀ i ∈ s.1, Nat.testBit (M.getD s.2 0) i = true) ∧ (∀ x ∈ rest, Nat.testBit (M.getD x.2 0) s.2 = true) ∧ segOk M rest = true := by
  simp only [segOk, Bool.and_eq_true, List.all_eq_true] at h
  exact ⟨h.1.1, h.1.2, h.2⟩

def futOf (rest : List DSeg) (last : List NRec) : List NRec := rest.flatMap (·.ns) ++ last
theorem futOf_cons (s : DSeg) (rest : List DSeg) (last : List NRec) : futOf (s :: rest) last = s.ns ++ futOf rest last := by simp [futOf]
section
variable {P : Program} {c : Ctx} {orc : Orc} {ih : Task → Option Res} {ops : Array Oper} {base : Nat} {R0 : Map} {h0 : LH} {w0 : World}
  {all : List Nat} {la0 laF : LAct} {defs : List Deferred} {last : List NRec} {hF : LH} {rr : Option Nat} {Q : Exit → Act → World → Prop} {mk : List Nat}

structure Facts (P : Program) (orc : Orc) (ih : Task → Option Res) (ops : Array Oper) (base : Nat) (all : List Nat) (la0 laF : LAct) (last : List NRec) (hF : LH) (D : Nat → Prop) (H : LH) (rest : List DSeg) : Prop where
  good : Good P orc ih ops base last hF H rest
  effs : ∀ s ∈ rest, s.e ∈ all ∧ ¬ D s.e ∧ EntOk ops (masks ops) all la0 laF s.ent
  recs : ∀ r ∈ futOf rest last, r.i ∈ all ∧ EntOk ops (masks ops) all la0 laF r.ent ∧ NOk P ops base r
  cover : ∀ i ∈ all, D i ∨ (∃ s ∈ rest, s.e = i) ∨ ∃ r ∈ futOf rest last, r.i = i
  seg : segOk (masks ops) (rest.map fun s => (s.ns.map (·.i), s.e)) = true
  nodup : ((futOf rest last).map (·.i)).Nodup
  apart : ∀ s ∈ rest, ∀ r ∈ futOf rest last, r.i ≠ s.e
  epart : (rest.map (·.e)).Nodup
  closed : ∀ j, D j → ∀ i, Nat.testBit ((masks ops).getD j 0) i = true → D i

theorem any_end {listed : Array Bool} {a : Act} {w : World} {H : LH} {rest : List DSeg} {R Z : Map} (hq : ∀ R' a' w', Goes R0 h0 w0 R' hF w' → ARel R' ⟨laF.tmps, laF.n, mk⟩ a' → Q .normal a' w')
    (hdefs : defs = mk.map (fun i => ({ target := .collected (R0.b i), args := #[] } : Deferred))) (hmk : ∀ i ∈ mk, (R0 i).isSome = true) (hdom : ∀ t v, laF.tmps.get t = some v → t < laF.n)
    (f : Facts P orc ih ops base all la0 laF last hF (Dl listed) H rest) (v : HInv ops base R0 h0 w0 (Dl listed) H (futOf rest last) R Z w) (s : SInv ops all la0 laF defs (Dl listed) (uni R Z) a) (hall : ∀ i ∈ all, Dl listed i) : Q .normal a w := by
  cases rest with
  | cons x rest => exact absurd (hall _ (f.effs x (by simp)).1) (f.effs x (by simp)).2.1
  | nil =>
    obtain ⟨h1, h2, h3⟩ := f.good
    have hfut : futOf [] last = last ++ [] := by simp [futOf]
    rw [hfut] at v
    have hn := f.nodup
    rw [hfut] at hn
    obtain ⟨R', Z', v', e⟩ := HInv.absorb v (fun r hr => hall _ (f.recs r (by rw [hfut]; simpa using hr)).1) hn
    rw [← h3] at v'
    have hZ : uni R' Z' = R' := by
      funext k
      unfold uni
      cases R' k with
      | some x => rfl
      | none =>
        simp only
        cases hz : Z' k with
        | none => rfl
        | some y => obtain ⟨r, hr, _⟩ := v'.zdom k y hz; cases hr
    rw [← e, hZ] at s
    refine hq R' a w v'.goes ⟨⟨s.size, fun t ht => (s.fin t ht fun j hj _ => hall j hj).1, fun t u hu => ⟨hdom t u hu, ?_⟩⟩, ?_, fun i hi => Map.ext_isSome v'.goes.ext (hmk i hi)⟩
    · have := (s.fin t (hdom t u hu) fun j hj _ => hall j hj).2
      rw [show laF.tmps.get t = some u from hu] at this
      exact this
    · rw [s.defers, hdefs]
      apply List.map_congr_left
      intro i hi
      rw [Map.ext_b v'.goes.ext (hmk i hi)]
theorem ready_mem {listed : Array Bool} (hsz : listed.size = ops.size) {i : Nat} : i ∈ Region.ready .any ops listed ↔ i < ops.size ∧ ¬ Dl listed i ∧ ∃ o, ops[i]? = some o ∧ ∀ e ∈ o.after.toList, Region.binds .any e = true → Dl listed e.on := by
  unfold Region.ready Dl
  simp only [List.mem_filter, List.mem_range, Bool.and_eq_true, Bool.not_eq_true']
  constructor
  · rintro ⟨h1, h2, h3⟩
    refine ⟨h1, ?_, ops[i], Array.getElem?_eq_getElem h1, ?_⟩
    · simp only [Array.getD_eq_getD_getElem?, Array.getElem?_eq_getElem (hsz ▸ h1 : i < listed.size), Option.getD_some] at h2 ⊢
      simp [h2]
    · intro e he hb
      rw [Array.getElem?_eq_getElem h1] at h3
      simp only [Option.map_some, Option.getD_some, Array.all_eq_true_iff_forall_mem, Bool.or_eq_true, Bool.not_eq_true'] at h3
      rcases h3 e (by simpa using he) with h4 | h4
      · rw [hb] at h4; cases h4
      · exact h4
  · rintro ⟨h1, h2, o, ho, h3⟩
    refine ⟨h1, ?_, ?_⟩
    · simp only [Array.getD_eq_getD_getElem?, Array.getElem?_eq_getElem (hsz ▸ h1 : i < listed.size), Option.getD_some] at h2 ⊢
      simpa using h2
    · rw [ho]
      simp only [Option.map_some, Option.getD_some, Array.all_eq_true_iff_forall_mem, Bool.or_eq_true, Bool.not_eq_true']
      intro e he
      cases hb : Region.binds .any e with
      | false => exact .inl rfl
      | true => exact .inr (h3 e (by simpa using he) hb)
theorem ready_nil (pl : Plan ops (masks ops) all) {listed : Array Bool} (hsz : listed.size = ops.size) (h : Region.ready .any ops listed = []) : ∀ i ∈ all, Dl listed i := by
  have : ∀ n i, i < n → i < ops.size → Dl listed i := by
    intro n
    induction n with
    | zero => intro i hi; omega
    | succ n ihn =>
      intro i hi his
      obtain ⟨o, ho, _, hb⟩ := pl.mask i his
      cases hd : listed.getD i false with
      | true => exact hd
      | false =>
        exfalso
        have hm : i ∈ Region.ready .any ops listed := (ready_mem hsz).2 ⟨his, fun hD => (by unfold Dl at hD; rw [hd] at hD; cases hD), o, ho, fun e he hbi => ihn e.on (by have := hb e he hbi; omega) (by have := hb e he hbi; omega)⟩
        rw [h] at hm
        cases hm
  exact fun i hi => this (i + 1) i (by omega) (pl.lt i hi)

theorem any_run (hs : SoundAll P c ih) (hoo : OrcOk P c orc) (hb0 : Base c R0 h0 w0) (pl : Plan ops (masks ops) all) (hq : ∀ R' a' w', Goes R0 h0 w0 R' hF w' → ARel R' ⟨laF.tmps, laF.n, mk⟩ a' → Q .normal a' w')
    (hdefs : defs = mk.map (fun i => ({ target := .collected (R0.b i), args := #[] } : Deferred))) (hmk : ∀ i ∈ mk, (R0 i).isSome = true) (hdom : ∀ t v, laF.tmps.get t = some v → t < laF.n) :
    ∀ (fuel : Nat) (listed : Array Bool) (a : Act) (w : World) (H : LH) (rest : List DSeg) (R Z : Map), listed.size = ops.size → (all.filter (fun j => !listed.getD j false)).length ≤ fuel →
    Facts P orc ih ops base all la0 laF last hF (Dl listed) H rest → HInv ops base R0 h0 w0 (Dl listed) H (futOf rest last) R Z w → SInv ops all la0 laF defs (Dl listed) (uni R Z) a →
    wpAnyIn (fen rr) 0 P .any ops Q fuel listed a w := by
  intro fuel
  induction fuel with
  | zero =>
    intro listed a w H rest R Z hsz hn f v s
    have hnil : all.filter (fun j => !listed.getD j false) = [] := List.length_eq_zero_iff.1 (by omega)
    have hall : ∀ i ∈ all, Dl listed i := fun i hi => by
      have := List.filter_eq_nil_iff.1 hnil i hi
      simpa [Dl] using this
    refine ⟨?_, any_end hq hdefs hmk hdom f v s hall⟩
    apply List.eq_nil_iff_forall_not_mem.2
    intro i hi
    obtain ⟨h1, h2, _⟩ := (ready_mem hsz).1 hi
    exact h2 (hall i (pl.mem i h1))
  | succ fuel ihf =>
    intro listed a w H rest R Z hsz hn f v s
    refine ⟨fun h => any_end hq hdefs hmk hdom f v s (ready_nil pl hsz h), fun i hi => ?_⟩
    obtain ⟨hlt, hnd, o, ho, hdeps⟩ := (ready_mem hsz).1 hi
    have hia := pl.mem i hlt
    have hmask : ∀ j, Nat.testBit ((masks ops).getD i 0) j = true → Dl listed j := fun j hj => by
      obtain ⟨o', ho', h1, _⟩ := pl.mask i hlt
      rw [ho] at ho'
      simp only [Option.some.injEq] at ho'
      subst ho'
      obtain ⟨e, he, hb, rfl | h2⟩ := h1 j hj
      · exact hdeps e he hb
      · exact f.closed _ (hdeps e he hb) _ h2
    have hset := Dl_set (listed := listed) (i := i) (by omega)
    have hsz' : (listed.setIfInBounds i true).size = ops.size := by simpa using hsz
    have hn' : (all.filter (fun j => !(listed.setIfInBounds i true).getD j false)).length ≤ fuel := by
      have : (all.filter (fun j => !(listed.setIfInBounds i true).getD j false)).length < (all.filter (fun j => !listed.getD j false)).length := by
        refine filter_lt hia ?_ ?_ fun j hj => ?_
        · unfold Dl at hnd; simpa using hnd
        · have : Dl (listed.setIfInBounds i true) i := by rw [hset]; exact .inr rfl
          unfold Dl at this
          rw [this]; rfl
        · by_cases hd : Dl listed j
          · have : Dl (listed.setIfInBounds i true) j := by rw [hset]; exact .inl hd
            unfold Dl at this
            rw [this] at hj; cases hj
          · unfold Dl at hd; simpa using hd
      omega
    have hclosed : ∀ j, (Dl listed j ∨ j = i) → ∀ k, Nat.testBit ((masks ops).getD j 0) k = true → (Dl listed k ∨ k = i) := fun j hj k hk => by
      rcases hj with hj | rfl
      · exact .inl (f.closed j hj k hk)
      · exact .inl (hmask k hk)
    rcases f.cover i hia with h | ⟨x, hx, hxi⟩ | ⟨r, hr, hri⟩
    · exact absurd h hnd
    · -- an effect
      subst hxi
      cases rest with
      | nil => cases hx
      | cons y rest =>
        have hseg := f.seg
        rw [List.map_cons] at hseg
        obtain ⟨hs1, hs2, hs3⟩ := segOk_spec hseg
        have hep := f.epart
        simp only [List.map_cons, List.nodup_cons] at hep
        have hxy : x = y := by
          rcases List.mem_cons.1 hx with h | h
          · exact h
          · exact absurd (hmask _ (hs2 (x.ns.map (·.i), x.e) (List.mem_map.2 ⟨x, h, rfl⟩))) (f.effs y (by simp)).2.1
        subst hxy
        obtain ⟨g1, g2, g3, g4, ⟨o', ho', hsel, hex⟩, g6⟩ := f.good
        rw [ho] at ho'
        simp only [Option.some.injEq] at ho'
        subst ho'
        have hnod := f.nodup
        rw [futOf_cons] at v hnod
        obtain ⟨R1, Z1, v1, e1⟩ := HInv.absorb v (fun r hr => hmask _ (hs1 r.i (List.mem_map.2 ⟨r, hr, rfl⟩))) hnod
        rw [← g3] at v1
        rw [← e1] at s
        have hent := (f.effs x (by simp)).2.2
        have hfut : ∀ r ∈ futOf rest last, r ∈ futOf (x :: rest) last := fun r hr => by rw [futOf_cons]; simp [hr]
        have hnf : ∀ r ∈ futOf rest last, r.i ≠ x.e := fun r hr => f.apart x (by simp) r (hfut r hr)
        have facts' : Facts P orc ih ops base all la0 laF last hF (Dl (listed.setIfInBounds x.e true)) x.post rest := by
          rw [hset]
          refine ⟨g6, fun s' hs' => ?_, fun r hr => f.recs r (hfut r hr), fun j hj => ?_, hs3, ?_, fun s' hs' r hr => f.apart s' (by simp [hs']) r (hfut r hr), hep.2, hclosed⟩
          · obtain ⟨k1, k2, k3⟩ := f.effs s' (by simp [hs'])
            exact ⟨k1, fun h => h.elim k2 fun h' => hep.1 (List.mem_map.2 ⟨s', hs', h'⟩), k3⟩
          · rcases f.cover j hj with h | ⟨s', hs', h⟩ | ⟨r, hr, h⟩
            · exact .inl (.inl h)
            · rcases List.mem_cons.1 hs' with h' | h'
              · subst h'; exact .inl (.inr h.symm)
              · exact .inr (.inl ⟨s', h', h⟩)
            · rw [futOf_cons] at hr
              rcases List.mem_append.1 hr with hr | hr
              · exact .inl (.inl (h ▸ hmask _ (hs1 r.i (List.mem_map.2 ⟨r, hr, rfl⟩))))
              · exact .inr (.inr ⟨r, hr, h⟩)
          · rw [List.map_append] at hnod
            exact (List.nodup_append.1 hnod).2.1
        obtain ⟨hrel, hag⟩ := s.real hent hnd hmask f.closed
        have hw : Region.wanted o (yielded ops a.tmps) = lwanted ops x.la o := (wanted_real ho hag).trans (lwanted_ok hrel ops o)
        have next : ∀ {R' Z' : Map} {w' : World} {vr : Value}, (uni R1 Z1).ext (uni R' Z') → HInv ops base R0 h0 w0 (fun j => Dl listed j ∨ j = x.e) x.post (futOf rest last) R' Z' w' → vr = ren (uni R' Z') x.v → wfv (uni R' Z') x.v →
            wpAnyIn (fen rr) 0 P .any ops Q fuel (listed.setIfInBounds x.e true) (a.put o.dst vr) w' := by
          intro R' Z' w' vr hext hv' hvr hwf
          have sp := (s.ext hext).put (i := x.e) (v := x.v) hia (fun j hj t h1 h2 => pl.uniq x.e hia j hj t h1 h2) hent.dst hwf
          rw [← hset] at sp hv'
          rw [hvr]
          rw [dstOf_eq ho] at sp
          exact ihf _ _ _ _ _ _ _ hsz' hn' facts' hv' sp
        unfold wpOpIn
        simp only [ho]
        rw [hw]
        by_cases hwant : lwanted ops x.la o = true
        · rw [if_pos hwant] at hex ⊢
          refine ⟨fun f _ => trivial, (estep (e := x.ent) hs hoo hb0 v1 s hnd hnf hent g4 hmask f.closed ho hsel hex rr).upon ?_⟩
          rintro vr w' ⟨R', hext, hv', hvr, hwf⟩
          exact next hext hv' hvr hwf
        · rw [if_neg hwant] at hex ⊢
          simp only [Option.some.injEq, Prod.mk.injEq] at hex
          refine ⟨fun f _ => trivial, ?_⟩
          rw [hex.2] at v1
          refine next (Map.ext_refl _) (v1.mark fun r hr e => absurd e (hnf r hr)) ?_ ?_
          · rw [← hex.1]; rfl
          · rw [← hex.1]; trivial
    · -- an operation without effect
      subst hri
      obtain ⟨hra, hent, hnok⟩ := f.recs r hr
      have hbig : H.next ≤ BIG := by cases rest with | nil => exact f.good.1 | cons y rest => exact f.good.1
      have hread : r.k = .read → slotsOk (idsOk (avail base ops.size H)) r.la (looksOf ops r.i) = true ∧ ∃ o h, ops[r.i]? = some o ∧ lop P (lev r.la) H o = some (r.v, h) ∧ h.next = H.next := by
        intro hk
        cases rest with
        | nil =>
          rcases f.good.2.1 r (by simpa [futOf] using hr) hk with ⟨e, he, _⟩ | h
          · cases he
          · exact h
        | cons y rest =>
          rcases f.good.2.1 r (by simpa [futOf, List.append_assoc] using hr) hk with ⟨e, he, hbit⟩ | h
          · have : ∃ s' ∈ y :: rest, s'.e = e := by
              rcases List.mem_cons.1 he with he | he
              · exact ⟨y, by simp, he.symm⟩
              · obtain ⟨s', hs', hse⟩ := List.mem_map.1 he
                exact ⟨s', by simp [hs'], hse⟩
            obtain ⟨s', hs', rfl⟩ := this
            exact absurd (hmask _ hbit) (f.effs s' hs').2.1
          · exact h
      have facts' : Facts P orc ih ops base all la0 laF last hF (Dl (listed.setIfInBounds r.i true)) H rest := by
        rw [hset]
        refine ⟨f.good, fun s' hs' => ?_, f.recs, fun j hj => ?_, f.seg, f.nodup, f.apart, f.epart, hclosed⟩
        · obtain ⟨k1, k2, k3⟩ := f.effs s' hs'
          exact ⟨k1, fun h => h.elim k2 fun h' => f.apart s' hs' r hr h'.symm, k3⟩
        · rcases f.cover j hj with h | h | h
          · exact .inl (.inl h)
          · exact .inr (.inl h)
          · exact .inr (.inr h)
      obtain ⟨hrel, hag⟩ := s.real hent hnd hmask f.closed
      have hw : Region.wanted o (yielded ops a.tmps) = lwanted ops r.la o := (wanted_real ho hag).trans (lwanted_ok hrel ops o)
      have next : ∀ {Z' : Map} {w' : World} {vr : Value}, (uni R Z).ext (uni R Z') → HInv ops base R0 h0 w0 (fun j => Dl listed j ∨ j = r.i) H (futOf rest last) R Z' w' → vr = ren (uni R Z') r.v → wfv (uni R Z') r.v →
          wpAnyIn (fen rr) 0 P .any ops Q fuel (listed.setIfInBounds r.i true) (a.put o.dst vr) w' := by
        intro Z' w' vr hext hv' hvr hwf
        have sp := (s.ext hext).put (i := r.i) (v := r.v) hia (fun j hj t h1 h2 => pl.uniq r.i hia j hj t h1 h2) hent.dst hwf
        rw [← hset] at sp hv'
        rw [hvr]
        rw [dstOf_eq ho] at sp
        exact ihf _ _ _ _ _ _ _ hsz' hn' facts' hv' sp
      unfold wpOpIn
      simp only [ho]
      rw [hw]
      by_cases hwant : lwanted ops r.la o = true
      · rw [if_pos hwant]
        refine ⟨fun f _ => trivial, (nstep v s hr hnd hent hnok hread hbig hmask f.closed ho hwant rr).upon ?_⟩
        rintro vr w' ⟨Z', hext, hv', hvr, hwf⟩
        exact next hext hv' hvr hwf
      · rw [if_neg hwant]
        refine ⟨fun f _ => trivial, ?_⟩
        obtain ⟨o', ho', heff, hk⟩ := hnok
        rw [ho] at ho'
        simp only [Option.some.injEq] at ho'
        subst ho'
        cases hkk : r.k with
        | skip =>
          rw [hkk] at hk
          refine next (Map.ext_refl _) (v.mark fun r' hr' e x hx => ?_) ?_ ?_
          · rw [v.uniq r' hr' r hr e, hkk] at hx; cases hx
          · rw [hk.2]; rfl
          · rw [hk.2]; trivial
        | pure => rw [hkk] at hk; exact absurd hk.1 hwant
        | read => rw [hkk] at hk; exact absurd hk.1 hwant
        | zero x => rw [hkk] at hk; exact absurd hk.1 hwant
end
end Go.Proofs.YtedfhallhpkkhaaGreatDoor.X
/- The local run of regions that draw is right, and so the local run of a program. Any program. -/
namespace Go.Proofs.YtedfhallhpkkhaaGreatDoor.X
open Go Go.RowKit

theorem ents_map (ds : List DSeg) (rs : List NRec) : (entsOf ds rs).map (·.1) = flat (ds.map fun s => (s.ns.map (·.i), s.e)) (rs.map (·.i)) := by
  have h1 : (rs.map NRec.ent).map (fun e : Ent => e.1) = rs.map (·.i) := by rw [List.map_map]; rfl
  have h2 : ∀ ds : List DSeg, (ds.flatMap (fun s => s.ns.map NRec.ent ++ [s.ent])).map (fun e : Ent => e.1) = (ds.map fun s => (s.ns.map (·.i), s.e)).flatMap (fun x => x.1 ++ [x.2]) := by
    intro ds
    induction ds with
    | nil => rfl
    | cons s ds ih =>
      rw [List.flatMap_cons, List.map_append, ih, List.map_cons, List.flatMap_cons, List.map_append, List.map_map]
      rfl
  unfold entsOf flat
  rw [List.map_append, h1, h2]
theorem mem_ents_eff {ds : List DSeg} {rs : List NRec} {s : DSeg} (h : s ∈ ds) : s.ent ∈ entsOf ds rs := by
  unfold entsOf
  exact List.mem_append_left _ (List.mem_flatMap.2 ⟨s, h, by simp⟩)
theorem mem_ents_rec {ds : List DSeg} {rs : List NRec} {r : NRec} (h : r ∈ futOf ds rs) : r.ent ∈ entsOf ds rs := by
  unfold entsOf
  rcases List.mem_append.1 h with h | h
  · obtain ⟨s, hs, hr⟩ := List.mem_flatMap.1 h
    exact List.mem_append_left _ (List.mem_flatMap.2 ⟨s, hs, List.mem_append_left _ (List.mem_map.2 ⟨r, hr, rfl⟩)⟩)
  · exact List.mem_append_right _ (List.mem_map.2 ⟨r, h, rfl⟩)
theorem ents_cover {ds : List DSeg} {rs : List NRec} {i : Nat} (h : i ∈ (entsOf ds rs).map (·.1)) : (∃ s ∈ ds, s.e = i) ∨ ∃ r ∈ futOf ds rs, r.i = i := by
  obtain ⟨e, he, rfl⟩ := List.mem_map.1 h
  unfold entsOf at he
  rcases List.mem_append.1 he with he | he
  · obtain ⟨s, hs, he⟩ := List.mem_flatMap.1 he
    rcases List.mem_append.1 he with he | he
    · obtain ⟨r, hr, rfl⟩ := List.mem_map.1 he
      exact .inr ⟨r, List.mem_append_left _ (List.mem_flatMap.2 ⟨s, hs, hr⟩), rfl⟩
    · simp only [List.mem_singleton] at he
      subst he
      exact .inl ⟨s, hs, rfl⟩
  · obtain ⟨r, hr, rfl⟩ := List.mem_map.1 he
    exact .inr ⟨r, List.mem_append_right _ hr, rfl⟩
/-- The numbers of a region's records are all different. -/
theorem nodup_parts : ∀ {ds : List DSeg} {rs : List NRec}, ((entsOf ds rs).map (·.1)).Nodup → ((futOf ds rs).map (·.i)).Nodup ∧ (∀ s ∈ ds, ∀ r ∈ futOf ds rs, r.i ≠ s.e) ∧ (ds.map (·.e)).Nodup
  | [], rs, h => by
    have h1 : (entsOf [] rs).map (fun e : Ent => e.1) = (futOf [] rs).map (·.i) := by simp [entsOf, futOf, Function.comp_def, NRec.ent]
    rw [h1] at h
    exact ⟨h, fun s hs => (by cases hs), List.nodup_nil⟩
  | s :: ds, rs, h => by
    have h1 : (entsOf (s :: ds) rs).map (fun e : Ent => e.1) = s.ns.map (·.i) ++ s.e :: (entsOf ds rs).map (·.1) := by
      simp [entsOf, Function.comp_def, NRec.ent, DSeg.ent]
    rw [h1, List.nodup_append, List.nodup_cons] at h
    obtain ⟨h2, ⟨h3, h4⟩, h5⟩ := h
    obtain ⟨g1, g2, g3⟩ := nodup_parts h4
    have inE : ∀ r ∈ futOf ds rs, r.i ∈ (entsOf ds rs).map (·.1) := fun r hr => List.mem_map.2 ⟨r.ent, mem_ents_rec hr, rfl⟩
    have inE' : ∀ s' ∈ ds, s'.e ∈ (entsOf ds rs).map (·.1) := fun s' hs' => List.mem_map.2 ⟨s'.ent, mem_ents_eff hs', rfl⟩
    refine ⟨?_, fun s' hs' r hr => ?_, ?_⟩
    · rw [futOf_cons, List.map_append, List.nodup_append]
      refine ⟨h2, g1, fun x hx y hy => ?_⟩
      obtain ⟨r, hr, rfl⟩ := List.mem_map.1 hy
      exact h5 x hx _ (List.mem_cons_of_mem _ (inE r hr))
    · rw [futOf_cons] at hr
      rcases List.mem_append.1 hr with hr1 | hr2
      · have hx : r.i ∈ s.ns.map (·.i) := List.mem_map.2 ⟨r, hr1, rfl⟩
        rcases List.mem_cons.1 hs' with rfl | hs'
        · exact h5 _ hx _ (by simp)
        · exact h5 _ hx _ (List.mem_cons_of_mem _ (inE' s' hs'))
      · rcases List.mem_cons.1 hs' with rfl | hs'
        · exact fun e => h3 (e ▸ inE r hr2)
        · exact g2 s' hs' r hr2
    · rw [List.map_cons, List.nodup_cons]
      refine ⟨fun hx => ?_, g3⟩
      obtain ⟨s', hs', he⟩ := List.mem_map.1 hx
      exact h3 (he ▸ inE' s' hs')
theorem Goes.of_drew {R R' : Map} {h h' : LH} {w w' : World} {n : Nat} (r : HRel R h w.heap) (g : Goes R h { w with drawn := n } R' h' w') : Goes R h w R' h' w' := (Goes.drew r n).trans g

/-- A region that draws, run once, is so in every order. -/
theorem any_ok (P : Program) (c : Ctx) (orc : Orc) (hoo : OrcOk P c orc) : AnyOk P c (anyRun P orc) := by
  intro ih hs ops la h la' h' hv R a w rr id Q r ra b hq
  unfold anyRun at hv
  split at hv
  case isFalse => cases hv
  rename_i hm
  split at hv
  case isFalse => cases hv
  rename_i hpl
  split at hv
  case h_2 => cases hv
  rename_i ds rs laF hF hf
  split at hv
  case isFalse => cases hv
  rename_i hr
  simp only [Option.some.injEq, Prod.mk.injEq] at hv
  obtain ⟨rfl, rfl⟩ := hv
  obtain ⟨pl, hord, hdist, hseg⟩ := plan_of hpl
  obtain ⟨hgood, hputs, hds, hrs, hn1, hn2⟩ := fwd_ok hf hr
  have hmap : (entsOf ds rs).map (·.1) = flat (planOf ops).1 (planOf ops).2 := by rw [ents_map, hds, hrs]
  have hnod : ((entsOf ds rs).map (·.1)).Nodup := by rw [hmap]; exact pl.nodup
  obtain ⟨hp1, hp2, hp3⟩ := nodup_parts hnod
  obtain ⟨hkn, hkeep⟩ := hputs.keep
  have hdom0 : ∀ k v, la.tmps.get k = some v → k < la.n := fun k v hk => (ra.tmps.2.2 k v hk).1
  have hdomF := hputs.dom hdom0
  have hat := fun e he => Puts.at (M := masks ops) (la0 := la) (pre := []) hputs (by rw [hmap]; exact hord) (by rw [hmap]; exact hdist) (fun t _ => rfl) (fun j hj => by cases hj) e he
  have hent : ∀ e ∈ entsOf ds rs, EntOk ops (masks ops) (flat (planOf ops).1 (planOf ops).2) la laF e := fun e he => by
    obtain ⟨k1, k2, k3, k4, k5⟩ := hat e he
    rw [List.nil_append, hmap] at k4
    exact ⟨k1, k2, k3, k4, k5, hdomF, fun t v ht => by rw [hkn]; exact hdom0 t v ht⟩
  refine wpIn_region_any hm ?_
  have hD : ∀ j, ¬ Dl (Array.replicate ops.size false) j := fun j hj => by
    unfold Dl at hj
    by_cases hlt : j < ops.size
    · simp [Array.getD_eq_getD_getElem?, hlt] at hj
    · simp [Array.getD_eq_getD_getElem?, hlt] at hj
  have hall : ∀ x, x ∈ (entsOf ds rs).map (·.1) → x ∈ flat (planOf ops).1 (planOf ops).2 := fun x hx => by rw [← hmap]; exact hx
  have hU : uni R (fun _ => none) = R := by
    funext k
    unfold uni
    cases R k <;> rfl
  refine any_run (c := c) (base := h.next) (R0 := R) (h0 := h) (w0 := { w with drawn := w.drawn + 1 }) (all := flat (planOf ops).1 (planOf ops).2) (la0 := la) (laF := laF) (defs := a.defers) (last := rs) (hF := hF) (mk := la.marks) hs hoo (b.goes (Goes.drew r _)) pl
    (fun R' a' w' hg hra => hq R' a' w' (Goes.of_drew r hg) hra) ra.defers ra.marks hdomF ops.size _ a _ ⟨h.t, h.next + ops.size⟩ ds R (fun _ => none) (by simp) ?_ ?_ ?_ ?_
  · exact Nat.le_trans (List.length_filter_le _ _) pl.len
  · refine ⟨hgood, fun s hs' => ⟨hall _ (List.mem_map.2 ⟨s.ent, mem_ents_eff hs', rfl⟩), hD _, hent _ (mem_ents_eff hs')⟩, fun r' hr' => ⟨hall _ (List.mem_map.2 ⟨r'.ent, mem_ents_rec hr', rfl⟩), hent _ (mem_ents_rec hr'), ?_⟩, fun i hi => ?_, by rw [hds]; exact hseg, hp1, hp2, hp3, fun j hj => absurd hj (hD j)⟩
    · rcases List.mem_append.1 hr' with hr' | hr'
      · obtain ⟨s, hs', hr'⟩ := List.mem_flatMap.1 hr'
        exact hn1 s hs' r' hr'
      · exact hn2 r' hr'
    · rw [← hmap] at hi
      rcases ents_cover hi with hc | hc
      · exact .inr (.inl hc)
      · exact .inr (.inr hc)
  · refine ⟨?_, rfl, r.glob.2.1.pos, ?_, Nat.le_refl _, fun r' hr' => pl.lt _ (hall _ (List.mem_map.2 ⟨r'.ent, mem_ents_rec hr', rfl⟩)), fun r1 hr1 r2 hr2 he => ?_, fun r' hr' => r.fresh _ (by omega), fun r' hr' x hx hd => absurd hd (hD _), fun k y hy => (by cases hy), fun k k' y y' hy => (by cases hy)⟩
    · exact ⟨Map.ext_refl R, fun _ _ => rfl, ⟨r.ok, r.inj, fun i hi => r.fresh i (Nat.le_trans (Nat.le_add_right _ _) hi), r.glob⟩, Nat.le_add_right _ _, Nat.le_refl _, rfl, rfl, rfl, fun _ _ _ => rfl, fun i o hi => .inl ⟨i, o, hi, rfl⟩⟩
    · rcases Nat.eq_zero_or_pos h.next with h0' | h0'
      · have := r.fresh 0 (by omega); rw [r.glob.1] at this; cases this
      · exact h0'
    · have inj : ∀ {l : List NRec}, (l.map (·.i)).Nodup → ∀ r1 ∈ l, ∀ r2 ∈ l, r1.i = r2.i → r1 = r2 := by
        intro l
        induction l with
        | nil => intro _ r1 h1; cases h1
        | cons x l ih =>
          intro hn r1 h1 r2 h2 e
          rw [List.map_cons, List.nodup_cons] at hn
          rcases List.mem_cons.1 h1 with q1 | q1
          · rcases List.mem_cons.1 h2 with q2 | q2
            · rw [q1, q2]
            · exact absurd (List.mem_map.2 ⟨r2, q2, (e.symm.trans (by rw [q1]))⟩) hn.1
          · rcases List.mem_cons.1 h2 with q2 | q2
            · exact absurd (List.mem_map.2 ⟨r1, q1, (e.trans (by rw [q2]))⟩) hn.1
            · exact ih hn.2 r1 q1 r2 q2 e
      exact inj hp1 r1 hr1 r2 hr2 he
  · rw [hU]
    obtain ⟨t1, t2, t3⟩ := ra.tmps
    have slot : ∀ t, t < la.n → Slot R a t ((la.tmps.get t).getD undef) := fun t ht => by
      refine ⟨t2 t ht, ?_⟩
      cases hg : la.tmps.get t with
      | none => exact wf_undef R
      | some v => exact (t3 t v hg).2
    refine ⟨t1.trans hkn.symm, rfl, fun t ht hd => ?_, fun t ht j hj hjt hd => slot t (by rw [← hkn]; exact ht)⟩
    rw [hkeep t fun e he he' => hD _ (hd e.1 (hall _ (List.mem_map.2 ⟨e, he, rfl⟩)) he')]
    exact slot t (by rw [← hkn]; exact ht)

/-- The local run is right. -/
theorem lrun_sound (P : Program) (c : Ctx) (orc : Orc) (hoo : OrcOk P c orc) (n : Nat) : SoundAll P c (lrun P orc (anyRun P orc) n) := lrun_ok hoo (any_ok P c orc hoo) n
end Go.Proofs.YtedfhallhpkkhaaGreatDoor.X
/- Regions that draw, by the recursors themselves: equal to the first form. Any program. -/
namespace Go.Proofs.YtedfhallhpkkhaaGreatDoor.X
open Go
noncomputable section

def lopF (P : Program) (lr : LAct) (h : LH) (o : Oper) : Option (Value × LH) := lexecF P (fun _ => none) (fun _ => none) lr h o
theorem lopF_eq {P : Program} {lr : LAct} {h : LH} {o : Oper} (he : isEff o.op = false) : lopF P lr h o = lop P (lev lr) h o := by
  unfold lopF
  rw [lexecF_eq]
  unfold lexec
  have hd : isDefer o.op = false := by cases hop : o.op <;> rw [hop] at he <;> first | rfl | cases he
  rw [hd]
  simp only [Bool.false_eq_true, if_false]
  split
  · rename_i hop
    rw [hop] at he
    simp [isEff] at he
  · rfl
def tryPureF (P : Program) (lr : LAct) (o : Oper) : Option Value :=
  ob (lopF P lr ⟨.nil, BIG⟩ o) fun p => Prod.rec (motive := fun _ => Option Value) (fun v h1 => LH.rec (motive := fun _ => Option Value) (fun t n => bb (isNilT t) (bb (Nat.beq n BIG) (some v) none) none) h1) p
theorem tryPureF_eq {P : Program} {lr : LAct} {o : Oper} (he : isEff o.op = false) : tryPureF P lr o = tryPure P lr o := by
  unfold tryPureF tryPure
  rw [lopF_eq he]
  cases lop P (lev lr) ⟨.nil, BIG⟩ o with
  | none => rfl
  | some p =>
    obtain ⟨v, t, n⟩ := p
    show bb (isNilT t) (bb (Nat.beq n BIG) (some v) none) none = _
    simp only [bb_ite, nat_beq]
    by_cases h1 : isNilT t = true
    · by_cases h2 : n = BIG
      · simp [h1, h2]
      · simp [h1, h2]
    · simp [h1]
section
variable (P : Program) (orc : Orc) (ih : Task → Option Res) (ops : Array Oper) (base : Nat)
def nrecF (H : LH) (lr : LAct) (i : Nat) (o : Oper) : Option NRec :=
  bb (isEff o.op) none (bb (wantedF ops.toList lr o.guard)
    (bb (isRead o.op) (bb (isConv o.op) (nrec P ops base H lr i o) (ob (lopF P lr H o) fun p => Prod.rec (motive := fun _ => Option NRec) (fun v _ => some ⟨i, lr, v, .read⟩) p))
      (bb (isZero o.op) (nrec P ops base H lr i o) (ob (tryPureF P lr o) fun v => some ⟨i, lr, v, .pure⟩)))
    (some ⟨i, lr, undef, .skip⟩))
theorem nrecF_eq (H : LH) (lr : LAct) (i : Nat) (o : Oper) : nrecF P ops base H lr i o = nrec P ops base H lr i o := by
  unfold nrecF
  rw [wantedF_eq]
  simp only [bb_ite]
  by_cases he : isEff o.op = true
  · simp [nrec, he]
  · have he' : isEff o.op = false := by simpa using he
    rw [if_neg he, lopF_eq he', tryPureF_eq he']
    by_cases hw : lwanted ops lr o = true
    · rw [if_pos hw]
      by_cases hr : isRead o.op = true
      · rw [if_pos hr]
        by_cases hc : isConv o.op = true
        · rw [if_pos hc]
        · rw [if_neg hc]
          unfold nrec
          rw [if_neg he, if_pos hw, if_pos hr]
          simp only [if_neg hc]
          cases lop P (lev lr) H o <;> rfl
      · rw [if_neg hr]
        by_cases hz : isZero o.op = true
        · rw [if_pos hz]
        · rw [if_neg hz]
          unfold nrec
          rw [if_neg he, if_pos hw, if_neg hr, if_neg hz]
          cases tryPure P lr o <;> rfl
    · rw [if_neg hw]
      unfold nrec
      rw [if_neg he, if_neg hw]
def fwdNF (H : LH) (l : List Nat) : LAct → Option (List NRec × LAct) :=
  List.rec (motive := fun _ => LAct → Option (List NRec × LAct)) (fun la => some ([], la)) (fun i _ rest la => ob ops[i]? fun o => ob (nrecF P ops base H (restr la (looksOf ops i)) i o) fun r => ob (putF la o.dst r.v) fun la1 => ob (rest la1) fun p =>
    Prod.rec (motive := fun _ => Option (List NRec × LAct)) (fun rs la2 => some (r :: rs, la2)) p) l
theorem fwdNF_eq (H : LH) : ∀ (l : List Nat) (la : LAct), fwdNF P ops base H l la = fwdN P ops base H l la
  | [], _ => rfl
  | i :: l, la => by
    show (ob ops[i]? fun o => ob (nrecF P ops base H (restr la (looksOf ops i)) i o) fun r => ob (putF la o.dst r.v) fun la1 => ob (fwdNF P ops base H l la1) fun p =>
      Prod.rec (motive := fun _ => Option (List NRec × LAct)) (fun rs la2 => some (r :: rs, la2)) p) = _
    simp only [fwdN]
    cases ops[i]? with
    | none => rfl
    | some o =>
      simp only [ob_some]
      rw [nrecF_eq]
      cases nrec P ops base H (restr la (looksOf ops i)) i o with
      | none => rfl
      | some r =>
        simp only [ob_some]
        rw [putF_eq]
        cases la.put o.dst r.v with
        | none => rfl
        | some la1 =>
          simp only [ob_some]
          rw [fwdNF_eq H l la1]
          cases fwdN P ops base H l la1 with
          | none => rfl
          | some p => rfl
def absorbF (l : List NRec) : LH → LH :=
  List.rec (motive := fun _ => LH → LH) (fun H => H) (fun r _ rest H => NRec.rec (motive := fun _ => LH) (fun i _ _ k => NK.rec (motive := fun _ => LH) (rest H) (rest H) (rest H) (fun x => rest (H.put (base + i) x)) k) r) l
theorem absorbF_eq : ∀ (l : List NRec) (H : LH), absorbF base l H = absorb base H l
  | [], _ => rfl
  | ⟨i, la, v, k⟩ :: l, H => by
    cases k with
    | zero x =>
      show absorbF base l (H.put (base + i) x) = _
      rw [absorbF_eq l]; rfl
    | _ => show absorbF base l H = _; rw [absorbF_eq l]; rfl
mutual
theorem idsOk_plain (f : Nat → Bool) : ∀ v : Value, plain v = true → idsOk f v = true
  | .pointer (some _), h => by simp [plain] at h
  | .slice (some _) _ _, h => by simp [plain] at h
  | .map (some _), h => by simp [plain] at h
  | .func fn fs cs, h => by
    simp only [plain, Bool.and_eq_true] at h
    simp only [idsOk, idsOkA_plain f fs h.2.1, idsOkA_plain f cs h.2.2, Bool.and_self, Bool.and_true]
    cases fn <;> first | rfl | (simp [plainFn] at h)
  | .iface _ v, h => by simp only [plain] at h; simp only [idsOk]; exact idsOk_plain f v h
  | .agg cs, h => by simp only [plain] at h; simp only [idsOk]; exact idsOkA_plain f cs h
  | .tuple cs, h => by simp only [plain] at h; simp only [idsOk]; exact idsOkA_plain f cs h
  | .pointer none, _ => by simp [idsOk]
  | .slice none _ _, _ => by simp [idsOk]
  | .map none, _ => by simp [idsOk]
  | .chan _, _ => by simp [idsOk]
  | .bool _, _ => by simp [idsOk]
  | .int _ _, _ => by simp [idsOk]
  | .float _ _, _ => by simp [idsOk]
  | .complex _ _ _, _ => by simp [idsOk]
  | .string _, _ => by simp [idsOk]
  | .nilFunc, _ => by simp [idsOk]
  | .nilIface, _ => by simp [idsOk]
theorem idsOkA_plain (f : Nat → Bool) : ∀ a : Array Value, plainA a = true → idsOkA f a = true
  | ⟨l⟩, h => by simp only [plainA] at h; simp only [idsOkA]; exact idsOkL_plain f l h
theorem idsOkL_plain (f : Nat → Bool) : ∀ l : List Value, plainL l = true → idsOkL f l = true
  | [], _ => rfl
  | v :: l, h => by
    simp only [plainL, Bool.and_eq_true] at h
    simp only [idsOkL, idsOk_plain f v h.1, idsOkL_plain f l h.2, Bool.and_self]
end
/-- The values of slots: without numbers, or with numbers that are there. -/
def slotsF (f : Nat → Bool) (la : LAct) (ts : List Tmp) : Bool :=
  List.rec (motive := fun _ => Bool) true (fun t _ rest => Option.rec (motive := fun _ => Bool) rest (fun v => bb (bb (plainR v) true (idsOk f v)) rest false) (T.get la.tmps t)) ts
theorem slotsF_eq (f : Nat → Bool) (la : LAct) : ∀ ts, slotsF f la ts = slotsOk (idsOk f) la ts
  | [] => rfl
  | t :: ts => by
    show Option.rec (motive := fun _ => Bool) (slotsF f la ts) (fun v => bb (bb (plainR v) true (idsOk f v)) (slotsF f la ts) false) (T.get la.tmps t) = _
    rw [slotsF_eq f la ts]
    unfold slotsOk
    rw [List.all_cons]
    cases T.get la.tmps t with
    | none => rfl
    | some v =>
      simp only [bb_ite, plainR_eq]
      by_cases hp : plain v = true
      · simp [hp, idsOk_plain f v hp]
      · simp [hp]
def fwdF (sg : Segs) (last : List Nat) : LAct → LH → Option (List DSeg × List NRec × LAct × LH) :=
  List.rec (motive := fun _ => LAct → LH → Option (List DSeg × List NRec × LAct × LH))
    (fun la H => ob (fwdNF P ops base H last la) fun p => Prod.rec (motive := fun _ => Option (List DSeg × List NRec × LAct × LH)) (fun rs la1 => some ([], rs, la1, absorbF base rs H)) p)
    (fun s _ rest la H => ob (fwdNF P ops base H s.1 la) fun p => Prod.rec (motive := fun _ => Option (List DSeg × List NRec × LAct × LH)) (fun rs la1 =>
      ob ops[s.2]? fun o => bb (isSelect o.op) none (bb (slotsF (avail base ops.size (absorbF base rs H)) (restr la1 (looksOf ops s.2)) (looksOf ops s.2))
        (ob (bb (wantedF ops.toList (restr la1 (looksOf ops s.2)) o.guard) (lexecF P orc ih (restr la1 (looksOf ops s.2)) (absorbF base rs H) o) (some (undef, absorbF base rs H))) fun q =>
          Prod.rec (motive := fun _ => Option (List DSeg × List NRec × LAct × LH)) (fun v post => ob (putF la1 o.dst v) fun la2 => ob (rest la2 post) fun z => some (⟨rs, absorbF base rs H, s.2, restr la1 (looksOf ops s.2), v, post⟩ :: z.1, z.2)) q) none)) p) sg
theorem fwdF_eq (last : List Nat) : ∀ (sg : Segs) (la : LAct) (H : LH), fwdF P orc ih ops base sg last la H = fwd P orc ih ops base sg last la H
  | [], la, H => by
    show ob (fwdNF P ops base H last la) _ = _
    rw [fwdNF_eq]
    simp only [fwd]
    cases fwdN P ops base H last la with
    | none => rfl
    | some p =>
      obtain ⟨rs, la1⟩ := p
      show some ([], rs, la1, absorbF base rs H) = _
      rw [absorbF_eq]
  | s :: rest, la, H => by
    show (ob (fwdNF P ops base H s.1 la) fun p => Prod.rec (motive := fun _ => Option (List DSeg × List NRec × LAct × LH)) (fun rs la1 =>
      ob ops[s.2]? fun o => bb (isSelect o.op) none (bb (slotsF (avail base ops.size (absorbF base rs H)) (restr la1 (looksOf ops s.2)) (looksOf ops s.2))
        (ob (bb (wantedF ops.toList (restr la1 (looksOf ops s.2)) o.guard) (lexecF P orc ih (restr la1 (looksOf ops s.2)) (absorbF base rs H) o) (some (undef, absorbF base rs H))) fun q =>
          Prod.rec (motive := fun _ => Option (List DSeg × List NRec × LAct × LH)) (fun v post => ob (putF la1 o.dst v) fun la2 => ob (fwdF P orc ih ops base rest last la2 post) fun z => some (⟨rs, absorbF base rs H, s.2, restr la1 (looksOf ops s.2), v, post⟩ :: z.1, z.2)) q) none)) p) = _
    rw [fwdNF_eq]
    simp only [fwd]
    cases fwdN P ops base H s.1 la with
    | none => rfl
    | some p =>
      obtain ⟨rs, la1⟩ := p
      simp only [ob_some]
      cases ops[s.2]? with
      | none => rfl
      | some o =>
        simp only [ob_some, absorbF_eq, slotsF_eq, wantedF_eq, lexecF_eq, bb_ite]
        cases hsel : isSelect o.op with
        | true => simp
        | false =>
          simp only [Bool.false_eq_true, if_false, and_true]
          by_cases hs : slotsOk (idsOk (avail base ops.size (absorb base H rs))) (restr la1 (looksOf ops s.2)) (looksOf ops s.2) = true
          · simp only [if_pos hs]
            cases (if lwanted ops (restr la1 (looksOf ops s.2)) o = true then lexec P orc ih (restr la1 (looksOf ops s.2)) (absorb base H rs) o else some (undef, absorb base H rs)) with
            | none => rfl
            | some q =>
              obtain ⟨v, post⟩ := q
              simp only [ob_some, putF_eq]
              cases la1.put o.dst v with
              | none => rfl
              | some la2 =>
                simp only [ob_some]
                rw [fwdF_eq last rest la2 post]
                cases fwd P orc ih ops base rest last la2 post with
                | none => rfl
                | some z => obtain ⟨a, b, c, d⟩ := z; rfl
          · simp only [if_neg hs]

def veqF (a b : Value) : Bool := Option.rec (motive := fun _ => Bool) (veq a b) (fun p => Option.rec (motive := fun _ => Bool) (veq a b) (fun q => bb (kindF p.1 q.1) (intEqF p.2 q.2) false) (asIntF b)) (asIntF a)
theorem veqF_eq (a b : Value) : veqF a b = veq a b := by
  cases a <;> try rfl
  rename_i j m
  cases b <;> try rfl
  rename_i k n
  show bb (kindF j k) (intEqF m n) false = _
  simp only [veq, bb_ite]
  cases kindF j k <;> rfl
def bitF (m e : Nat) : Bool := not (Nat.beq (Nat.land 1 (Nat.shiftRight m e)) 0)
theorem bitF_eq (m e : Nat) : bitF m e = Nat.testBit m e := by
  have h : Nat.testBit m e = ((1 &&& (m >>> e)) != 0) := rfl
  rw [h]
  unfold bitF
  rw [nat_beq]
  rfl
def anyBit (m : Nat) (es : List Nat) : Bool := List.rec (motive := fun _ => Bool) false (fun e _ rest => bb (bitF m e) true rest) es
theorem anyBit_eq (m : Nat) : ∀ es : List Nat, anyBit m es = es.any (fun e => Nat.testBit m e)
  | [] => rfl
  | e :: es => by
    show bb (bitF m e) true (anyBit m es) = _
    rw [anyBit_eq m es, bitF_eq, List.any_cons, bb_ite]
    cases Nat.testBit m e <;> rfl
def readF (H : LH) (es : List Nat) (i : Nat) (la : LAct) (v : Value) : Bool :=
  bb (anyBit ((masks ops).getD i 0) es) true (bb (slotsF (avail base ops.size H) la (looksOf ops i)) (Option.rec (motive := fun _ => Bool) false (fun o => bb (isEff o.op) (readAt P ops base H es ⟨i, la, v, .read⟩)
    (Option.rec (motive := fun _ => Bool) false (fun p => Prod.rec (motive := fun _ => Bool) (fun u h => bb (Nat.beq h.next H.next) (veqF u v) false) p) (lopF P la H o))) ops[i]?) false)
def readAtF (H : LH) (es : List Nat) (r : NRec) : Bool := NRec.rec (motive := fun _ => Bool) (fun i la v k => NK.rec (motive := fun _ => Bool) true true (readF P ops base H es i la v) (fun _ => true) k) r
theorem readAtF_eq (H : LH) (es : List Nat) (r : NRec) : readAtF P ops base H es r = readAt P ops base H es r := by
  obtain ⟨i, la, v, k⟩ := r
  cases k <;> try rfl
  show readF P ops base H es i la v = _
  unfold readF
  cases ho : ops[i]? with
  | none =>
    simp only [readAt, ho, anyBit_eq, slotsF_eq, bb_ite]
    cases (es.any fun e => Nat.testBit ((masks ops).getD i 0) e) <;> simp
  | some o =>
    simp only [anyBit_eq, slotsF_eq, bb_ite]
    by_cases he : isEff o.op = true
    · simp only [he, if_true]
      simp only [readAt, ho]
      cases (es.any fun e => Nat.testBit ((masks ops).getD i 0) e) <;> simp <;> cases slotsOk (idsOk (avail base ops.size H)) la (looksOf ops i) <;> simp
    · rw [if_neg he, lopF_eq (by simpa using he)]
      simp only [readAt, ho]
      cases (es.any fun e => Nat.testBit ((masks ops).getD i 0) e) <;> simp <;> cases slotsOk (idsOk (avail base ops.size H)) la (looksOf ops i) <;> simp
      cases lop P (lev la) H o with
      | none => rfl
      | some p => obtain ⟨u, h⟩ := p; simp [veqF_eq, nat_beq]
def allF (f : NRec → Bool) (l : List NRec) (z : Bool) : Bool := List.rec (motive := fun _ => Bool) z (fun r _ rest => bb (f r) rest false) l
theorem allF_eq (f : NRec → Bool) (z : Bool) : ∀ l : List NRec, allF f l z = (l.all f && z)
  | [] => by simp [allF]
  | r :: l => by
    show bb (f r) (allF f l z) false = _
    rw [allF_eq f z l, bb_ite, List.all_cons]
    cases f r <;> simp
def allsF (f : NRec → Bool) (l : List DSeg) (z : Bool) : Bool := List.rec (motive := fun _ => Bool) z (fun s _ rest => allF f s.ns rest) l
theorem allsF_eq (f : NRec → Bool) (z : Bool) : ∀ l : List DSeg, allsF f l z = ((l.flatMap (·.ns)).all f && z)
  | [] => by simp [allsF]
  | s :: l => by
    show allF f s.ns (allsF f l z) = _
    rw [allF_eq, allsF_eq f z l, List.flatMap_cons, List.all_append, Bool.and_assoc]
def esF (l : List DSeg) : List Nat := List.rec (motive := fun _ => List Nat) [] (fun s _ rest => s.e :: rest) l
theorem esF_eq : ∀ l : List DSeg, esF l = l.map (·.e)
  | [] => rfl
  | s :: l => congrArg (s.e :: ·) (esF_eq l)
def readsF (last : List NRec) (ds : List DSeg) : LH → Bool :=
  List.rec (motive := fun _ => LH → Bool) (fun H => bb (Nat.ble H.next BIG) (allF (readAtF P ops base H []) last true) false)
    (fun s rest go H => bb (Nat.ble H.next BIG) (allF (readAtF P ops base H (s.e :: esF rest)) s.ns (allsF (readAtF P ops base H (s.e :: esF rest)) rest (allF (readAtF P ops base H (s.e :: esF rest)) last (go s.post)))) false) ds
theorem readsF_eq (last : List NRec) : ∀ (ds : List DSeg) (H : LH), readsF P ops base last ds H = readsAt P ops base last ds H
  | [], H => by
    show bb (Nat.ble H.next BIG) (allF (readAtF P ops base H []) last true) false = _
    have hf : readAtF P ops base H [] = readAt P ops base H [] := funext fun r => readAtF_eq P ops base H [] r
    rw [allF_eq, hf, bb_ite]
    simp only [readsAt, Bool.and_true]
    cases Nat.ble H.next BIG <;> simp
  | s :: rest, H => by
    show bb (Nat.ble H.next BIG) (allF (readAtF P ops base H (s.e :: esF rest)) s.ns (allsF (readAtF P ops base H (s.e :: esF rest)) rest (allF (readAtF P ops base H (s.e :: esF rest)) last (readsF P ops base last rest s.post)))) false = _
    have hf : readAtF P ops base H (s.e :: esF rest) = readAt P ops base H (s.e :: rest.map (·.e)) := by rw [esF_eq]; exact funext fun r => readAtF_eq P ops base H _ r
    rw [allF_eq, allsF_eq, allF_eq, hf, readsF_eq last rest, bb_ite]
    simp only [readsAt, List.all_append]
    cases Nat.ble H.next BIG <;> simp [Bool.and_assoc]
end
def okPlan (ops : Array Oper) : Bool := planOk ops (planOf ops).1 (planOf ops).2
def anyF (P : Program) (orc : Orc) : (Task → Option Res) → Array Oper → LAct → LH → Option (LAct × LH) := fun ih ops la h =>
  bb (P.follows .mixedOrders) (bb (okPlan ops) (ob (fwdF P orc ih ops h.next (planOf ops).1 (planOf ops).2 la ⟨h.t, h.next + ops.size⟩) fun z =>
    bb (readsF P ops h.next z.2.1 z.1 ⟨h.t, h.next + ops.size⟩) (LAct.rec (motive := fun _ => Option (LAct × LH)) (fun t n _ => some (⟨t, n, la.marks⟩, z.2.2.2)) z.2.2.1) none) none) none
theorem anyF_eq (P : Program) (orc : Orc) : anyF P orc = anyRun P orc := by
  funext ih ops la h
  unfold anyF anyRun okPlan
  rw [fwdF_eq]
  simp only [bb_ite]
  by_cases h1 : P.follows .mixedOrders = true
  · rw [if_pos h1, if_pos h1]
    by_cases h2 : planOk ops (planOf ops).1 (planOf ops).2 = true
    · rw [if_pos h2, if_pos h2]
      cases fwd P orc ih ops h.next (planOf ops).1 (planOf ops).2 la ⟨h.t, h.next + ops.size⟩ with
      | none => rfl
      | some z =>
        obtain ⟨ds, rs, laF, hF⟩ := z
        simp only [ob_some, readsF_eq]
    · rw [if_neg h2, if_neg h2]
  · rw [if_neg h1, if_neg h1]
end
end Go.Proofs.YtedfhallhpkkhaaGreatDoor.X
/- From a local run with plain arguments and a plain result to the contract of a call; what an oracle may be. Any program. -/
namespace Go.Proofs.YtedfhallhpkkhaaGreatDoor.X
open Go Go.RowKit

/-- What a run is asked for. -/
def isVal (f : Value → Bool) : Option Res → Bool
  | some (.val v _) => f v
  | _ => false
theorem isVal_some {f : Value → Bool} {r : Option Res} (h : isVal f r = true) : ∃ v h', r = some (.val v h') ∧ f v = true := by
  unfold isVal at h
  split at h
  · rename_i v h'; exact ⟨v, h', rfl, h⟩
  · cases h
/-- A function of the program, run locally from nothing with plain arguments to a plain value. -/
theorem calls_of_val {P : Program} {orc : Orc} {n : Nat} {f : FuncId} {args : List Value} {u : Value} {h' : LH} {w : World} (hoo : OrcOk P ⟨w.heap.size, w⟩ orc) (hg : GOk w.heap) (hp : plainL args = true) (hu : plain u = true)
    (hv : lrunF P orc (X.anyF P orc) n (.call f args ⟨.nil, 7⟩) = some (.val u h')) : Calls P f args.toArray w (fun e w' => e = .returned u ∧ Below w.heap.size w w') := by
  rw [lrunF_eq, anyF_eq] at hv
  have hs := lrun_sound P ⟨w.heap.size, w⟩ orc hoo n _ _ hv
  have hrel : HRel (one 0 0 0) ⟨.nil, 7⟩ w.heap := ⟨fun i o hi => (by cases hi), fun i j oi oj hi => (by cases hi), fun i hi => (by have hi' : 7 ≤ i := hi; simp only [one]; rw [if_neg (by omega)]), rfl, hg, fun i o hi => (by cases hi)⟩
  have hw : wfL (one 0 0 0) args := (plainL_ren _ args hp).2
  have hargs : args.map (ren (one 0 0 0)) = args := by
    have := (plainL_ren (one 0 0 0) args hp).1
    rwa [renL_eq] at this
  have hc := hs (one 0 0 0) w hrel hw ⟨fun i o hi => (by cases hi), ⟨rfl, rfl, rfl, Nat.le_refl _, fun k _ => rfl⟩, Nat.le_refl _⟩
  rw [hargs] at hc
  refine Calls.mono ((callsIn_wide (n := 0)).1 hc) ?_
  rintro e w' ⟨R', rfl, h2, g⟩
  refine ⟨by rw [(plain_ren R' u hu).1], g.os, g.tape, g.output, g.size, fun k hk => g.frame k hk fun i o hi => by cases hi⟩
theorem calls_of_run {P : Program} {orc : Orc} {n : Nat} {f : FuncId} {args : List Value} {u : Value} {w : World} (hoo : OrcOk P ⟨w.heap.size, w⟩ orc) (hg : GOk w.heap) (hp : plainL args = true) (hu : plain u = true)
    (hr : isVal (veq u) (lrunF P orc (X.anyF P orc) n (.call f args ⟨.nil, 7⟩)) = true) : Calls P f args.toArray w (fun e w' => e = .returned u ∧ Below w.heap.size w w') := by
  obtain ⟨v, h', hv, he⟩ := isVal_some hr
  have := veq_eq _ _ he
  subst this
  exact calls_of_val hoo hg hp hu hv
end Go.Proofs.YtedfhallhpkkhaaGreatDoor.X
/- Facts on calls with plain arguments, gathered into oracles for further local runs. Any program. -/
namespace Go.Proofs.YtedfhallhpkkhaaGreatDoor.X
open Go Go.RowKit

/-- A call with these plain arguments gives this value, in every world with the constants of SHA-256. -/
def Fact (P : Program) (f : FuncId) (args : List Value) (v : Value) : Prop := ∀ w : World, GOk w.heap → Calls P f args.toArray w (fun e w' => e = .returned v ∧ Below w.heap.size w w')
def OrcFacts (P : Program) (orc : Orc) : Prop := ∀ f g args v, orc f = some g → plainL args = true → g args = some v → plain v = true → Fact P f args v
theorem orcOk_of {P : Program} {orc : Orc} {c : Ctx} (h : OrcFacts P orc) (hg : GOk c.w0.heap) (hn : 0 < c.N0) : OrcOk P c orc := by
  intro f g args v w h1 h2 h3 h4 hb
  exact h f g args v h1 h2 h3 h4 w (hg.of (hb.block 0 hn))
theorem fact_of_run {P : Program} {orc : Orc} {n : Nat} {f : FuncId} {args : List Value} {u : Value} (ho : OrcFacts P orc) (hp : plainL args = true) (hu : plain u = true)
    (hr : isVal (veq u) (lrunF P orc (X.anyF P orc) n (.call f args ⟨.nil, 7⟩)) = true) : Fact P f args u :=
  fun w hg => calls_of_run (orcOk_of (c := ⟨w.heap.size, w⟩) ho hg hg.pos) hg hp hu hr
theorem noFacts (P : Program) : OrcFacts P (fun _ => none) := fun f g args v h => by cases h

noncomputable def tabF (tab : List (List Value × Value)) (args : List Value) : Option Value := List.rec (motive := fun _ => Option Value) none (fun p _ rest => bb (veqL p.1 args) (some p.2) rest) tab
theorem tabF_mem {args : List Value} {v : Value} : ∀ {tab : List (List Value × Value)}, tabF tab args = some v → (args, v) ∈ tab
  | [], h => by cases h
  | p :: tab, h => by
    have h : bb (veqL p.1 args) (some p.2) (tabF tab args) = some v := h
    rw [bb_ite] at h
    split at h
    · rename_i he
      simp only [Option.some.injEq] at h
      have := veqL_eq _ _ he
      rw [← this, ← h]
      simp
    · exact List.mem_cons_of_mem _ (tabF_mem h)
noncomputable def withTab (f : FuncId) (tab : List (List Value × Value)) (rest : Orc) : Orc := fun g => bb (Nat.beq g f) (some (tabF tab)) (rest g)
theorem withTab_facts {P : Program} {f : FuncId} {tab : List (List Value × Value)} {rest : Orc} (ht : ∀ p ∈ tab, Fact P f p.1 p.2) (hr : OrcFacts P rest) : OrcFacts P (withTab f tab rest) := by
  intro g k args v h1 h2 h3 h4
  unfold withTab at h1
  rw [bb_ite, nat_beq] at h1
  split at h1
  · rename_i he
    simp only [decide_eq_true_eq] at he
    subst he
    simp only [Option.some.injEq] at h1
    subst h1
    exact ht _ (tabF_mem h3)
  · exact hr g k args v h1 h2 h3 h4
def st (l : List Nat) : Value := .agg ⟨l.map fun n => .int .u32 (Int.ofNat n)⟩
def dg (l : List Nat) : Value := .agg ⟨l.map fun n => .int .u8 (Int.ofNat n)⟩
end Go.Proofs.YtedfhallhpkkhaaGreatDoor.X
