/- Regions that draw: the local run is right in every order. Any program. -/
import Derived.Test.YtedfhallhpkkhaaGreatDoorXz
set_option linter.unusedVariables false
set_option linter.unusedSimpArgs false
namespace Go.Proofs.YtedfhallhpkkhaaGreatDoor.X
open Go Go.RowKit

def Dl (listed : Array Bool) (j : Nat) : Prop := listed.getD j false = true
theorem Dl_set {listed : Array Bool} {i : Nat} (h : i < listed.size) : Dl (listed.setIfInBounds i true) = fun j => Dl listed j ∨ j = i := by
  funext j
  apply propext
  unfold Dl
  by_cases he : j = i
  · subst he
    simp [Array.getD_eq_getD_getElem?, Array.getElem?_setIfInBounds_self_of_lt h]
  · simp only [he, or_false, Array.getD_eq_getD_getElem?]
    rw [Array.getElem?_setIfInBounds_ne (fun e => he e.symm)]

structure Plan (ops : Array Oper) (M all : List Nat) : Prop where
  mem : ∀ i, i < ops.size → i ∈ all
  lt : ∀ i ∈ all, i < ops.size
  nodup : all.Nodup
  len : all.length ≤ ops.size
  uniq : ∀ i ∈ all, ∀ j ∈ all, ∀ t, dstOf ops i = some t → dstOf ops j = some t → j = i
  mask : ∀ i, i < ops.size → ∃ o, ops[i]? = some o ∧ (∀ j, Nat.testBit (M.getD i 0) j = true → ∃ e ∈ o.after.toList, Region.binds .any e = true ∧ (j = e.on ∨ Nat.testBit (M.getD e.on 0) j = true)) ∧ ∀ e ∈ o.after.toList, Region.binds .any e = true → e.on < i
theorem dist_all {ops : Array Oper} : ∀ {l : List Nat}, dist ops l = true → l.Nodup ∧ ∀ i ∈ l, ∀ j ∈ l, ∀ t, dstOf ops i = some t → dstOf ops j = some t → j = i
  | [], _ => ⟨List.nodup_nil, fun i hi => by cases hi⟩
  | x :: l, h => by
    obtain ⟨h1, h2⟩ := dist_spec h
    obtain ⟨h3, h4⟩ := dist_all h2
    refine ⟨List.nodup_cons.2 ⟨fun hx => (h1 x hx).1 rfl, h3⟩, fun i hi j hj t hit hjt => ?_⟩
    rcases List.mem_cons.1 hi with hi | hi
    · rcases List.mem_cons.1 hj with hj | hj
      · rw [hi, hj]
      · rw [hi] at hit; exact absurd hjt ((h1 j hj).2 t hit)
    · rcases List.mem_cons.1 hj with hj | hj
      · rw [hj] at hjt; exact absurd hit ((h1 i hi).2 t hjt)
      · exact h4 i hi j hj t hit hjt
theorem maskOf_spec {M : List Nat} : ∀ {l : List Edge} {j : Nat}, Nat.testBit (maskOf M l) j = true → ∃ e ∈ l, Region.binds .any e = true ∧ (j = e.on ∨ Nat.testBit (M.getD e.on 0) j = true)
  | [], j, h => by
    have : Nat.testBit 0 j = true := h
    simp at this
  | e :: l, j, h => by
    have h' : Nat.testBit (bb (Region.binds .any e) (Nat.lor (Nat.lor (maskOf M l) (Nat.pow 2 e.on)) (M.getD e.on 0)) (maskOf M l)) j = true := h
    rw [bb_ite] at h'
    split at h'
    · rename_i hb
      have h2 : Nat.testBit ((maskOf M l ||| 2 ^ e.on) ||| M.getD e.on 0) j = true := h'
      simp only [Nat.testBit_or, Bool.or_eq_true, Nat.testBit_two_pow, decide_eq_true_eq] at h2
      rcases h2 with (h2 | h2) | h2
      · obtain ⟨e', he', h3⟩ := maskOf_spec h2
        exact ⟨e', by simp [he'], h3⟩
      · exact ⟨e, by simp, hb, .inl h2.symm⟩
      · exact ⟨e, by simp, hb, .inr h2⟩
    · obtain ⟨e', he', h3⟩ := maskOf_spec h'
      exact ⟨e', by simp [he'], h3⟩
theorem plan_of {ops : Array Oper} {s : Segs} {last : List Nat} (h : planOk ops s last = true) : Plan ops (masks ops) (flat s last) ∧ ord ops (masks ops) [] (flat s last) = true ∧ dist ops (flat s last) = true ∧ segOk (masks ops) s = true := by
  simp only [planOk, Bool.and_eq_true, List.all_eq_true, List.mem_range, List.contains_iff_mem, decide_eq_true_eq] at h
  obtain ⟨⟨⟨⟨⟨h1, h2⟩, h3⟩, h4⟩, hlen⟩, h5⟩ := h
  obtain ⟨h6, h7⟩ := dist_all h3
  refine ⟨⟨fun i hi => (h1 i hi).1, h5, h6, hlen, h7, fun i hi => ?_⟩, h2, h3, h4⟩
  have := (h1 i hi).2
  unfold maskOk at this
  split at this
  case h_2 => cases this
  rename_i o ho
  simp only [Bool.and_eq_true, beq_iff_eq, List.all_eq_true, Bool.or_eq_true, Bool.not_eq_true', decide_eq_true_eq] at this
  refine ⟨o, ho, fun j hj => ?_, fun e he hb => ?_⟩
  · rw [this.1] at hj
    exact maskOf_spec hj
  · rcases this.2 e he with h8 | h8
    · rw [hb] at h8; cases h8
    · exact h8

theorem filter_lt {p q : Nat → Bool} : ∀ {l : List Nat} {i : Nat}, i ∈ l → p i = true → q i = false → (∀ j, q j = true → p j = true) → (l.filter q).length < (l.filter p).length
  | x :: l, i, hi, hp, hq, hm => by
    have hle : ∀ l : List Nat, (l.filter q).length ≤ (l.filter p).length := fun l => by
      induction l with
      | nil => exact Nat.le_refl _
      | cons y l ih =>
        cases hqy : q y with
        | true => simp only [List.filter_cons, hqy, hm y hqy, if_true, List.length_cons]; omega
        | false =>
          simp only [List.filter_cons, hqy, Bool.false_eq_true, if_false]
          split
          · simp only [List.length_cons]; omega
          · exact ih
    by_cases he : i = x
    · subst he
      simp only [List.filter_cons, hp, hq, if_true, Bool.false_eq_true, if_false, List.length_cons]
      exact Nat.lt_succ_of_le (hle l)
    · have ih := filter_lt (l := l) ((List.mem_cons.1 hi).resolve_left he) hp hq hm
      cases hqx : q x with
      | true => simp only [List.filter_cons, hqx, hm x hqx, if_true, List.length_cons]; omega
      | false =>
        simp only [List.filter_cons, hqx, Bool.false_eq_true, if_false]
        split
        · simp only [List.length_cons]; omega
        · exact ih
theorem segOk_spec {M : List Nat} {s : List Nat × Nat} {rest : Segs} (h : segOk M (s :: rest) = true) : (∀ i ∈ s.1, Nat.testBit (M.getD s.2 0) i = true) ∧ (∀ x ∈ rest, Nat.testBit (M.getD x.2 0) s.2 = true) ∧ segOk M rest = true := by
  simp only [segOk, Bool.and_eq_true, List.all_eq_true] at h
  exact ⟨h.1.1, h.1.2, h.2⟩

def futOf (rest : List DSeg) (last : List NRec) : List NRec := rest.flatMap (·.ns) ++ last
theorem futOf_cons (s : DSeg) (rest : List DSeg) (last : List NRec) : futOf (s :: rest) last = s.ns ++ futOf rest last := by simp [futOf]
section
variable {P : Program} {c : Ctx} {orc : Orc} {ih : Task → Option Res} {ops : Array Oper} {base : Nat} {R0 : Map} {h0 : LH} {w0 : World}
  {all : List Nat} {la0 laF : LAct} {defs : List Deferred} {last : List NRec} {hF : LH} {rr : Option Nat} {Q : Exit → Act → World → Prop} {mk : List Nat}

structure Facts (P : Program) (orc : Orc) (ih : Task → Option Res) (ops : Array Oper) (base : Nat) (all : List Nat) (la0 laF : LAct) (last : List NRec) (hF : LH) (D : Nat → Prop) (H : LH) (rest : List DSeg) : Prop where
  good : Good P orc ih ops base last hF H rest
  effs : ∀ s ∈ rest, s.e ∈ all ∧ ¬ D s.e ∧ EntOk ops (masks ops) all la0 laF s.ent
  recs : ∀ r ∈ futOf rest last, r.i ∈ all ∧ EntOk ops (masks ops) all la0 laF r.ent ∧ NOk P ops base r
  cover : ∀ i ∈ all, D i ∨ (∃ s ∈ rest, s.e = i) ∨ ∃ r ∈ futOf rest last, r.i = i
  seg : segOk (masks ops) (rest.map fun s => (s.ns.map (·.i), s.e)) = true
  nodup : ((futOf rest last).map (·.i)).Nodup
  apart : ∀ s ∈ rest, ∀ r ∈ futOf rest last, r.i ≠ s.e
  epart : (rest.map (·.e)).Nodup
  closed : ∀ j, D j → ∀ i, Nat.testBit ((masks ops).getD j 0) i = true → D i

theorem any_end {listed : Array Bool} {a : Act} {w : World} {H : LH} {rest : List DSeg} {R Z : Map} (hq : ∀ R' a' w', Goes R0 h0 w0 R' hF w' → ARel R' ⟨laF.tmps, laF.n, mk⟩ a' → Q .normal a' w')
    (hdefs : defs = mk.map (fun i => ({ target := .collected (R0.b i), args := #[] } : Deferred))) (hmk : ∀ i ∈ mk, (R0 i).isSome = true) (hdom : ∀ t v, laF.tmps.get t = some v → t < laF.n)
    (f : Facts P orc ih ops base all la0 laF last hF (Dl listed) H rest) (v : HInv ops base R0 h0 w0 (Dl listed) H (futOf rest last) R Z w) (s : SInv ops all la0 laF defs (Dl listed) (uni R Z) a) (hall : ∀ i ∈ all, Dl listed i) : Q .normal a w := by
  cases rest with
  | cons x rest => exact absurd (hall _ (f.effs x (by simp)).1) (f.effs x (by simp)).2.1
  | nil =>
    obtain ⟨h1, h2, h3⟩ := f.good
    have hfut : futOf [] last = last ++ [] := by simp [futOf]
    rw [hfut] at v
    have hn := f.nodup
    rw [hfut] at hn
    obtain ⟨R', Z', v', e⟩ := HInv.absorb v (fun r hr => hall _ (f.recs r (by rw [hfut]; simpa using hr)).1) hn
    rw [← h3] at v'
    have hZ : uni R' Z' = R' := by
      funext k
      unfold uni
      cases R' k with
      | some x => rfl
      | none =>
        simp only
        cases hz : Z' k with
        | none => rfl
        | some y => obtain ⟨r, hr, _⟩ := v'.zdom k y hz; cases hr
    rw [← e, hZ] at s
    refine hq R' a w v'.goes ⟨⟨s.size, fun t ht => (s.fin t ht fun j hj _ => hall j hj).1, fun t u hu => ⟨hdom t u hu, ?_⟩⟩, ?_, fun i hi => Map.ext_isSome v'.goes.ext (hmk i hi)⟩
    · have := (s.fin t (hdom t u hu) fun j hj _ => hall j hj).2
      rw [show laF.tmps.get t = some u from hu] at this
      exact this
    · rw [s.defers, hdefs]
      apply List.map_congr_left
      intro i hi
      rw [Map.ext_b v'.goes.ext (hmk i hi)]
theorem ready_mem {listed : Array Bool} (hsz : listed.size = ops.size) {i : Nat} : i ∈ Region.ready .any ops listed ↔ i < ops.size ∧ ¬ Dl listed i ∧ ∃ o, ops[i]? = some o ∧ ∀ e ∈ o.after.toList, Region.binds .any e = true → Dl listed e.on := by
  unfold Region.ready Dl
  simp only [List.mem_filter, List.mem_range, Bool.and_eq_true, Bool.not_eq_true']
  constructor
  · rintro ⟨h1, h2, h3⟩
    refine ⟨h1, ?_, ops[i], Array.getElem?_eq_getElem h1, ?_⟩
    · simp only [Array.getD_eq_getD_getElem?, Array.getElem?_eq_getElem (hsz ▸ h1 : i < listed.size), Option.getD_some] at h2 ⊢
      simp [h2]
    · intro e he hb
      rw [Array.getElem?_eq_getElem h1] at h3
      simp only [Option.map_some, Option.getD_some, Array.all_eq_true_iff_forall_mem, Bool.or_eq_true, Bool.not_eq_true'] at h3
      rcases h3 e (by simpa using he) with h4 | h4
      · rw [hb] at h4; cases h4
      · exact h4
  · rintro ⟨h1, h2, o, ho, h3⟩
    refine ⟨h1, ?_, ?_⟩
    · simp only [Array.getD_eq_getD_getElem?, Array.getElem?_eq_getElem (hsz ▸ h1 : i < listed.size), Option.getD_some] at h2 ⊢
      simpa using h2
    · rw [ho]
      simp only [Option.map_some, Option.getD_some, Array.all_eq_true_iff_forall_mem, Bool.or_eq_true, Bool.not_eq_true']
      intro e he
      cases hb : Region.binds .any e with
      | false => exact .inl rfl
      | true => exact .inr (h3 e (by simpa using he) hb)
theorem ready_nil (pl : Plan ops (masks ops) all) {listed : Array Bool} (hsz : listed.size = ops.size) (h : Region.ready .any ops listed = []) : ∀ i ∈ all, Dl listed i := by
  have : ∀ n i, i < n → i < ops.size → Dl listed i := by
    intro n
    induction n with
    | zero => intro i hi; omega
    | succ n ihn =>
      intro i hi his
      obtain ⟨o, ho, _, hb⟩ := pl.mask i his
      cases hd : listed.getD i false with
      | true => exact hd
      | false =>
        exfalso
        have hm : i ∈ Region.ready .any ops listed := (ready_mem hsz).2 ⟨his, fun hD => (by unfold Dl at hD; rw [hd] at hD; cases hD), o, ho, fun e he hbi => ihn e.on (by have := hb e he hbi; omega) (by have := hb e he hbi; omega)⟩
        rw [h] at hm
        cases hm
  exact fun i hi => this (i + 1) i (by omega) (pl.lt i hi)

theorem any_run (hs : SoundAll P c ih) (hoo : OrcOk P c orc) (hb0 : Base c R0 h0 w0) (pl : Plan ops (masks ops) all) (hq : ∀ R' a' w', Goes R0 h0 w0 R' hF w' → ARel R' ⟨laF.tmps, laF.n, mk⟩ a' → Q .normal a' w')
    (hdefs : defs = mk.map (fun i => ({ target := .collected (R0.b i), args := #[] } : Deferred))) (hmk : ∀ i ∈ mk, (R0 i).isSome = true) (hdom : ∀ t v, laF.tmps.get t = some v → t < laF.n) :
    ∀ (fuel : Nat) (listed : Array Bool) (a : Act) (w : World) (H : LH) (rest : List DSeg) (R Z : Map), listed.size = ops.size → (all.filter (fun j => !listed.getD j false)).length ≤ fuel →
    Facts P orc ih ops base all la0 laF last hF (Dl listed) H rest → HInv ops base R0 h0 w0 (Dl listed) H (futOf rest last) R Z w → SInv ops all la0 laF defs (Dl listed) (uni R Z) a →
    wpAnyIn (fen rr) 0 P .any ops Q fuel listed a w := by
  intro fuel
  induction fuel with
  | zero =>
    intro listed a w H rest R Z hsz hn f v s
    have hnil : all.filter (fun j => !listed.getD j false) = [] := List.length_eq_zero_iff.1 (by omega)
    have hall : ∀ i ∈ all, Dl listed i := fun i hi => by
      have := List.filter_eq_nil_iff.1 hnil i hi
      simpa [Dl] using this
    refine ⟨?_, any_end hq hdefs hmk hdom f v s hall⟩
    apply List.eq_nil_iff_forall_not_mem.2
    intro i hi
    obtain ⟨h1, h2, _⟩ := (ready_mem hsz).1 hi
    exact h2 (hall i (pl.mem i h1))
  | succ fuel ihf =>
    intro listed a w H rest R Z hsz hn f v s
    refine ⟨fun h => any_end hq hdefs hmk hdom f v s (ready_nil pl hsz h), fun i hi => ?_⟩
    obtain ⟨hlt, hnd, o, ho, hdeps⟩ := (ready_mem hsz).1 hi
    have hia := pl.mem i hlt
    have hmask : ∀ j, Nat.testBit ((masks ops).getD i 0) j = true → Dl listed j := fun j hj => by
      obtain ⟨o', ho', h1, _⟩ := pl.mask i hlt
      rw [ho] at ho'
      simp only [Option.some.injEq] at ho'
      subst ho'
      obtain ⟨e, he, hb, rfl | h2⟩ := h1 j hj
      · exact hdeps e he hb
      · exact f.closed _ (hdeps e he hb) _ h2
    have hset := Dl_set (listed := listed) (i := i) (by omega)
    have hsz' : (listed.setIfInBounds i true).size = ops.size := by simpa using hsz
    have hn' : (all.filter (fun j => !(listed.setIfInBounds i true).getD j false)).length ≤ fuel := by
      have : (all.filter (fun j => !(listed.setIfInBounds i true).getD j false)).length < (all.filter (fun j => !listed.getD j false)).length := by
        refine filter_lt hia ?_ ?_ fun j hj => ?_
        · unfold Dl at hnd; simpa using hnd
        · have : Dl (listed.setIfInBounds i true) i := by rw [hset]; exact .inr rfl
          unfold Dl at this
          rw [this]; rfl
        · by_cases hd : Dl listed j
          · have : Dl (listed.setIfInBounds i true) j := by rw [hset]; exact .inl hd
            unfold Dl at this
            rw [this] at hj; cases hj
          · unfold Dl at hd; simpa using hd
      omega
    have hclosed : ∀ j, (Dl listed j ∨ j = i) → ∀ k, Nat.testBit ((masks ops).getD j 0) k = true → (Dl listed k ∨ k = i) := fun j hj k hk => by
      rcases hj with hj | rfl
      · exact .inl (f.closed j hj k hk)
      · exact .inl (hmask k hk)
    rcases f.cover i hia with h | ⟨x, hx, hxi⟩ | ⟨r, hr, hri⟩
    · exact absurd h hnd
    · -- an effect
      subst hxi
      cases rest with
      | nil => cases hx
      | cons y rest =>
        have hseg := f.seg
        rw [List.map_cons] at hseg
        obtain ⟨hs1, hs2, hs3⟩ := segOk_spec hseg
        have hep := f.epart
        simp only [List.map_cons, List.nodup_cons] at hep
        have hxy : x = y := by
          rcases List.mem_cons.1 hx with h | h
          · exact h
          · exact absurd (hmask _ (hs2 (x.ns.map (·.i), x.e) (List.mem_map.2 ⟨x, h, rfl⟩))) (f.effs y (by simp)).2.1
        subst hxy
        obtain ⟨g1, g2, g3, g4, ⟨o', ho', hsel, hex⟩, g6⟩ := f.good
        rw [ho] at ho'
        simp only [Option.some.injEq] at ho'
        subst ho'
        have hnod := f.nodup
        rw [futOf_cons] at v hnod
        obtain ⟨R1, Z1, v1, e1⟩ := HInv.absorb v (fun r hr => hmask _ (hs1 r.i (List.mem_map.2 ⟨r, hr, rfl⟩))) hnod
        rw [← g3] at v1
        rw [← e1] at s
        have hent := (f.effs x (by simp)).2.2
        have hfut : ∀ r ∈ futOf rest last, r ∈ futOf (x :: rest) last := fun r hr => by rw [futOf_cons]; simp [hr]
        have hnf : ∀ r ∈ futOf rest last, r.i ≠ x.e := fun r hr => f.apart x (by simp) r (hfut r hr)
        have facts' : Facts P orc ih ops base all la0 laF last hF (Dl (listed.setIfInBounds x.e true)) x.post rest := by
          rw [hset]
          refine ⟨g6, fun s' hs' => ?_, fun r hr => f.recs r (hfut r hr), fun j hj => ?_, hs3, ?_, fun s' hs' r hr => f.apart s' (by simp [hs']) r (hfut r hr), hep.2, hclosed⟩
          · obtain ⟨k1, k2, k3⟩ := f.effs s' (by simp [hs'])
            exact ⟨k1, fun h => h.elim k2 fun h' => hep.1 (List.mem_map.2 ⟨s', hs', h'⟩), k3⟩
          · rcases f.cover j hj with h | ⟨s', hs', h⟩ | ⟨r, hr, h⟩
            · exact .inl (.inl h)
            · rcases List.mem_cons.1 hs' with h' | h'
              · subst h'; exact .inl (.inr h.symm)
              · exact .inr (.inl ⟨s', h', h⟩)
            · rw [futOf_cons] at hr
              rcases List.mem_append.1 hr with hr | hr
              · exact .inl (.inl (h ▸ hmask _ (hs1 r.i (List.mem_map.2 ⟨r, hr, rfl⟩))))
              · exact .inr (.inr ⟨r, hr, h⟩)
          · rw [List.map_append] at hnod
            exact (List.nodup_append.1 hnod).2.1
        obtain ⟨hrel, hag⟩ := s.real hent hnd hmask f.closed
        have hw : Region.wanted o (yielded ops a.tmps) = lwanted ops x.la o := (wanted_real ho hag).trans (lwanted_ok hrel ops o)
        have next : ∀ {R' Z' : Map} {w' : World} {vr : Value}, (uni R1 Z1).ext (uni R' Z') → HInv ops base R0 h0 w0 (fun j => Dl listed j ∨ j = x.e) x.post (futOf rest last) R' Z' w' → vr = ren (uni R' Z') x.v → wfv (uni R' Z') x.v →
            wpAnyIn (fen rr) 0 P .any ops Q fuel (listed.setIfInBounds x.e true) (a.put o.dst vr) w' := by
          intro R' Z' w' vr hext hv' hvr hwf
          have sp := (s.ext hext).put (i := x.e) (v := x.v) hia (fun j hj t h1 h2 => pl.uniq x.e hia j hj t h1 h2) hent.dst hwf
          rw [← hset] at sp hv'
          rw [hvr]
          rw [dstOf_eq ho] at sp
          exact ihf _ _ _ _ _ _ _ hsz' hn' facts' hv' sp
        unfold wpOpIn
        simp only [ho]
        rw [hw]
        by_cases hwant : lwanted ops x.la o = true
        · rw [if_pos hwant] at hex ⊢
          refine ⟨fun f _ => trivial, (estep (e := x.ent) hs hoo hb0 v1 s hnd hnf hent g4 hmask f.closed ho hsel hex rr).upon ?_⟩
          rintro vr w' ⟨R', hext, hv', hvr, hwf⟩
          exact next hext hv' hvr hwf
        · rw [if_neg hwant] at hex ⊢
          simp only [Option.some.injEq, Prod.mk.injEq] at hex
          refine ⟨fun f _ => trivial, ?_⟩
          rw [hex.2] at v1
          refine next (Map.ext_refl _) (v1.mark fun r hr e => absurd e (hnf r hr)) ?_ ?_
          · rw [← hex.1]; rfl
          · rw [← hex.1]; trivial
    · -- an operation without effect
      subst hri
      obtain ⟨hra, hent, hnok⟩ := f.recs r hr
      have hbig : H.next ≤ BIG := by cases rest with | nil => exact f.good.1 | cons y rest => exact f.good.1
      have hread : r.k = .read → slotsOk (idsOk (avail base ops.size H)) r.la (looksOf ops r.i) = true ∧ ∃ o h, ops[r.i]? = some o ∧ lop P (lev r.la) H o = some (r.v, h) ∧ h.next = H.next := by
        intro hk
        cases rest with
        | nil =>
          rcases f.good.2.1 r (by simpa [futOf] using hr) hk with ⟨e, he, _⟩ | h
          · cases he
          · exact h
        | cons y rest =>
          rcases f.good.2.1 r (by simpa [futOf, List.append_assoc] using hr) hk with ⟨e, he, hbit⟩ | h
          · have : ∃ s' ∈ y :: rest, s'.e = e := by
              rcases List.mem_cons.1 he with he | he
              · exact ⟨y, by simp, he.symm⟩
              · obtain ⟨s', hs', hse⟩ := List.mem_map.1 he
                exact ⟨s', by simp [hs'], hse⟩
            obtain ⟨s', hs', rfl⟩ := this
            exact absurd (hmask _ hbit) (f.effs s' hs').2.1
          · exact h
      have facts' : Facts P orc ih ops base all la0 laF last hF (Dl (listed.setIfInBounds r.i true)) H rest := by
        rw [hset]
        refine ⟨f.good, fun s' hs' => ?_, f.recs, fun j hj => ?_, f.seg, f.nodup, f.apart, f.epart, hclosed⟩
        · obtain ⟨k1, k2, k3⟩ := f.effs s' hs'
          exact ⟨k1, fun h => h.elim k2 fun h' => f.apart s' hs' r hr h'.symm, k3⟩
        · rcases f.cover j hj with h | h | h
          · exact .inl (.inl h)
          · exact .inr (.inl h)
          · exact .inr (.inr h)
      obtain ⟨hrel, hag⟩ := s.real hent hnd hmask f.closed
      have hw : Region.wanted o (yielded ops a.tmps) = lwanted ops r.la o := (wanted_real ho hag).trans (lwanted_ok hrel ops o)
      have next : ∀ {Z' : Map} {w' : World} {vr : Value}, (uni R Z).ext (uni R Z') → HInv ops base R0 h0 w0 (fun j => Dl listed j ∨ j = r.i) H (futOf rest last) R Z' w' → vr = ren (uni R Z') r.v → wfv (uni R Z') r.v →
          wpAnyIn (fen rr) 0 P .any ops Q fuel (listed.setIfInBounds r.i true) (a.put o.dst vr) w' := by
        intro Z' w' vr hext hv' hvr hwf
        have sp := (s.ext hext).put (i := r.i) (v := r.v) hia (fun j hj t h1 h2 => pl.uniq r.i hia j hj t h1 h2) hent.dst hwf
        rw [← hset] at sp hv'
        rw [hvr]
        rw [dstOf_eq ho] at sp
        exact ihf _ _ _ _ _ _ _ hsz' hn' facts' hv' sp
      unfold wpOpIn
      simp only [ho]
      rw [hw]
      by_cases hwant : lwanted ops r.la o = true
      · rw [if_pos hwant]
        refine ⟨fun f _ => trivial, (nstep v s hr hnd hent hnok hread hbig hmask f.closed ho hwant rr).upon ?_⟩
        rintro vr w' ⟨Z', hext, hv', hvr, hwf⟩
        exact next hext hv' hvr hwf
      · rw [if_neg hwant]
        refine ⟨fun f _ => trivial, ?_⟩
        obtain ⟨o', ho', heff, hk⟩ := hnok
        rw [ho] at ho'
        simp only [Option.some.injEq] at ho'
        subst ho'
        cases hkk : r.k with
        | skip =>
          rw [hkk] at hk
          refine next (Map.ext_refl _) (v.mark fun r' hr' e x hx => ?_) ?_ ?_
          · rw [v.uniq r' hr' r hr e, hkk] at hx; cases hx
          · rw [hk.2]; rfl
          · rw [hk.2]; trivial
        | pure => rw [hkk] at hk; exact absurd hk.1 hwant
        | read => rw [hkk] at hk; exact absurd hk.1 hwant
        | zero x => rw [hkk] at hk; exact absurd hk.1 hwant
end
end Go.Proofs.YtedfhallhpkkhaaGreatDoor.X
