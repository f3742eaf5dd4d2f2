/- The local run of regions that draw is right, and so the local run of a program. Any program. -/
import Derived.Test.YtedfhallhpkkhaaGreatDoorX1
set_option linter.unusedVariables false
set_option linter.unusedSimpArgs false
namespace Go.Proofs.YtedfhallhpkkhaaGreatDoor.X
open Go Go.RowKit

theorem ents_map (ds : List DSeg) (rs : List NRec) : (entsOf ds rs).map (·.1) = flat (ds.map fun s => (s.ns.map (·.i), s.e)) (rs.map (·.i)) := by
  have h1 : (rs.map NRec.ent).map (fun e : Ent => e.1) = rs.map (·.i) := by rw [List.map_map]; rfl
  have h2 : ∀ ds : List DSeg, (ds.flatMap (fun s => s.ns.map NRec.ent ++ [s.ent])).map (fun e : Ent => e.1) = (ds.map fun s => (s.ns.map (·.i), s.e)).flatMap (fun x => x.1 ++ [x.2]) := by
    intro ds
    induction ds with
    | nil => rfl
    | cons s ds ih =>
      rw [List.flatMap_cons, List.map_append, ih, List.map_cons, List.flatMap_cons, List.map_append, List.map_map]
      rfl
  unfold entsOf flat
  rw [List.map_append, h1, h2]
theorem mem_ents_eff {ds : List DSeg} {rs : List NRec} {s : DSeg} (h : s ∈ ds) : s.ent ∈ entsOf ds rs := by
  unfold entsOf
  exact List.mem_append_left _ (List.mem_flatMap.2 ⟨s, h, by simp⟩)
theorem mem_ents_rec {ds : List DSeg} {rs : List NRec} {r : NRec} (h : r ∈ futOf ds rs) : r.ent ∈ entsOf ds rs := by
  unfold entsOf
  rcases List.mem_append.1 h with h | h
  · obtain ⟨s, hs, hr⟩ := List.mem_flatMap.1 h
    exact List.mem_append_left _ (List.mem_flatMap.2 ⟨s, hs, List.mem_append_left _ (List.mem_map.2 ⟨r, hr, rfl⟩)⟩)
  · exact List.mem_append_right _ (List.mem_map.2 ⟨r, h, rfl⟩)
theorem ents_cover {ds : List DSeg} {rs : List NRec} {i : Nat} (h : i ∈ (entsOf ds rs).map (·.1)) : (∃ s ∈ ds, s.e = i) ∨ ∃ r ∈ futOf ds rs, r.i = i := by
  obtain ⟨e, he, rfl⟩ := List.mem_map.1 h
  unfold entsOf at he
  rcases List.mem_append.1 he with he | he
  · obtain ⟨s, hs, he⟩ := List.mem_flatMap.1 he
    rcases List.mem_append.1 he with he | he
    · obtain ⟨r, hr, rfl⟩ := List.mem_map.1 he
      exact .inr ⟨r, List.mem_append_left _ (List.mem_flatMap.2 ⟨s, hs, hr⟩), rfl⟩
    · simp only [List.mem_singleton] at he
      subst he
      exact .inl ⟨s, hs, rfl⟩
  · obtain ⟨r, hr, rfl⟩ := List.mem_map.1 he
    exact .inr ⟨r, List.mem_append_right _ hr, rfl⟩
/-- The numbers of a region's records are all different. -/
theorem nodup_parts : ∀ {ds : List DSeg} {rs : List NRec}, ((entsOf ds rs).map (·.1)).Nodup → ((futOf ds rs).map (·.i)).Nodup ∧ (∀ s ∈ ds, ∀ r ∈ futOf ds rs, r.i ≠ s.e) ∧ (ds.map (·.e)).Nodup
  | [], rs, h => by
    have h1 : (entsOf [] rs).map (fun e : Ent => e.1) = (futOf [] rs).map (·.i) := by simp [entsOf, futOf, Function.comp_def, NRec.ent]
    rw [h1] at h
    exact ⟨h, fun s hs => (by cases hs), List.nodup_nil⟩
  | s :: ds, rs, h => by
    have h1 : (entsOf (s :: ds) rs).map (fun e : Ent => e.1) = s.ns.map (·.i) ++ s.e :: (entsOf ds rs).map (·.1) := by
      simp [entsOf, Function.comp_def, NRec.ent, DSeg.ent]
    rw [h1, List.nodup_append, List.nodup_cons] at h
    obtain ⟨h2, ⟨h3, h4⟩, h5⟩ := h
    obtain ⟨g1, g2, g3⟩ := nodup_parts h4
    have inE : ∀ r ∈ futOf ds rs, r.i ∈ (entsOf ds rs).map (·.1) := fun r hr => List.mem_map.2 ⟨r.ent, mem_ents_rec hr, rfl⟩
    have inE' : ∀ s' ∈ ds, s'.e ∈ (entsOf ds rs).map (·.1) := fun s' hs' => List.mem_map.2 ⟨s'.ent, mem_ents_eff hs', rfl⟩
    refine ⟨?_, fun s' hs' r hr => ?_, ?_⟩
    · rw [futOf_cons, List.map_append, List.nodup_append]
      refine ⟨h2, g1, fun x hx y hy => ?_⟩
      obtain ⟨r, hr, rfl⟩ := List.mem_map.1 hy
      exact h5 x hx _ (List.mem_cons_of_mem _ (inE r hr))
    · rw [futOf_cons] at hr
      rcases List.mem_append.1 hr with hr1 | hr2
      · have hx : r.i ∈ s.ns.map (·.i) := List.mem_map.2 ⟨r, hr1, rfl⟩
        rcases List.mem_cons.1 hs' with rfl | hs'
        · exact h5 _ hx _ (by simp)
        · exact h5 _ hx _ (List.mem_cons_of_mem _ (inE' s' hs'))
      · rcases List.mem_cons.1 hs' with rfl | hs'
        · exact fun e => h3 (e ▸ inE r hr2)
        · exact g2 s' hs' r hr2
    · rw [List.map_cons, List.nodup_cons]
      refine ⟨fun hx => ?_, g3⟩
      obtain ⟨s', hs', he⟩ := List.mem_map.1 hx
      exact h3 (he ▸ inE' s' hs')
theorem Goes.of_drew {R R' : Map} {h h' : LH} {w w' : World} {n : Nat} (r : HRel R h w.heap) (g : Goes R h { w with drawn := n } R' h' w') : Goes R h w R' h' w' := (Goes.drew r n).trans g

/-- A region that draws, run once, is so in every order. -/
theorem any_ok (P : Program) (c : Ctx) (orc : Orc) (hoo : OrcOk P c orc) : AnyOk P c (anyRun P orc) := by
  intro ih hs ops la h la' h' hv R a w rr id Q r ra b hq
  unfold anyRun at hv
  split at hv
  case isFalse => cases hv
  rename_i hm
  split at hv
  case isFalse => cases hv
  rename_i hpl
  split at hv
  case h_2 => cases hv
  rename_i ds rs laF hF hf
  split at hv
  case isFalse => cases hv
  rename_i hr
  simp only [Option.some.injEq, Prod.mk.injEq] at hv
  obtain ⟨rfl, rfl⟩ := hv
  obtain ⟨pl, hord, hdist, hseg⟩ := plan_of hpl
  obtain ⟨hgood, hputs, hds, hrs, hn1, hn2⟩ := fwd_ok hf hr
  have hmap : (entsOf ds rs).map (·.1) = flat (planOf ops).1 (planOf ops).2 := by rw [ents_map, hds, hrs]
  have hnod : ((entsOf ds rs).map (·.1)).Nodup := by rw [hmap]; exact pl.nodup
  obtain ⟨hp1, hp2, hp3⟩ := nodup_parts hnod
  obtain ⟨hkn, hkeep⟩ := hputs.keep
  have hdom0 : ∀ k v, la.tmps.get k = some v → k < la.n := fun k v hk => (ra.tmps.2.2 k v hk).1
  have hdomF := hputs.dom hdom0
  have hat := fun e he => Puts.at (M := masks ops) (la0 := la) (pre := []) hputs (by rw [hmap]; exact hord) (by rw [hmap]; exact hdist) (fun t _ => rfl) (fun j hj => by cases hj) e he
  have hent : ∀ e ∈ entsOf ds rs, EntOk ops (masks ops) (flat (planOf ops).1 (planOf ops).2) la laF e := fun e he => by
    obtain ⟨k1, k2, k3, k4, k5⟩ := hat e he
    rw [List.nil_append, hmap] at k4
    exact ⟨k1, k2, k3, k4, k5, hdomF, fun t v ht => by rw [hkn]; exact hdom0 t v ht⟩
  refine wpIn_region_any hm ?_
  have hD : ∀ j, ¬ Dl (Array.replicate ops.size false) j := fun j hj => by
    unfold Dl at hj
    by_cases hlt : j < ops.size
    · simp [Array.getD_eq_getD_getElem?, hlt] at hj
    · simp [Array.getD_eq_getD_getElem?, hlt] at hj
  have hall : ∀ x, x ∈ (entsOf ds rs).map (·.1) → x ∈ flat (planOf ops).1 (planOf ops).2 := fun x hx => by rw [← hmap]; exact hx
  have hU : uni R (fun _ => none) = R := by
    funext k
    unfold uni
    cases R k <;> rfl
  refine any_run (c := c) (base := h.next) (R0 := R) (h0 := h) (w0 := { w with drawn := w.drawn + 1 }) (all := flat (planOf ops).1 (planOf ops).2) (la0 := la) (laF := laF) (defs := a.defers) (last := rs) (hF := hF) (mk := la.marks) hs hoo (b.goes (Goes.drew r _)) pl
    (fun R' a' w' hg hra => hq R' a' w' (Goes.of_drew r hg) hra) ra.defers ra.marks hdomF ops.size _ a _ ⟨h.t, h.next + ops.size⟩ ds R (fun _ => none) (by simp) ?_ ?_ ?_ ?_
  · exact Nat.le_trans (List.length_filter_le _ _) pl.len
  · refine ⟨hgood, fun s hs' => ⟨hall _ (List.mem_map.2 ⟨s.ent, mem_ents_eff hs', rfl⟩), hD _, hent _ (mem_ents_eff hs')⟩, fun r' hr' => ⟨hall _ (List.mem_map.2 ⟨r'.ent, mem_ents_rec hr', rfl⟩), hent _ (mem_ents_rec hr'), ?_⟩, fun i hi => ?_, by rw [hds]; exact hseg, hp1, hp2, hp3, fun j hj => absurd hj (hD j)⟩
    · rcases List.mem_append.1 hr' with hr' | hr'
      · obtain ⟨s, hs', hr'⟩ := List.mem_flatMap.1 hr'
        exact hn1 s hs' r' hr'
      · exact hn2 r' hr'
    · rw [← hmap] at hi
      rcases ents_cover hi with hc | hc
      · exact .inr (.inl hc)
      · exact .inr (.inr hc)
  · refine ⟨?_, rfl, r.glob.2.1.pos, ?_, Nat.le_refl _, fun r' hr' => pl.lt _ (hall _ (List.mem_map.2 ⟨r'.ent, mem_ents_rec hr', rfl⟩)), fun r1 hr1 r2 hr2 he => ?_, fun r' hr' => r.fresh _ (by omega), fun r' hr' x hx hd => absurd hd (hD _), fun k y hy => (by cases hy), fun k k' y y' hy => (by cases hy)⟩
    · exact ⟨Map.ext_refl R, fun _ _ => rfl, ⟨r.ok, r.inj, fun i hi => r.fresh i (Nat.le_trans (Nat.le_add_right _ _) hi), r.glob⟩, Nat.le_add_right _ _, Nat.le_refl _, rfl, rfl, rfl, fun _ _ _ => rfl, fun i o hi => .inl ⟨i, o, hi, rfl⟩⟩
    · rcases Nat.eq_zero_or_pos h.next with h0' | h0'
      · have := r.fresh 0 (by omega); rw [r.glob.1] at this; cases this
      · exact h0'
    · have inj : ∀ {l : List NRec}, (l.map (·.i)).Nodup → ∀ r1 ∈ l, ∀ r2 ∈ l, r1.i = r2.i → r1 = r2 := by
        intro l
        induction l with
        | nil => intro _ r1 h1; cases h1
        | cons x l ih =>
          intro hn r1 h1 r2 h2 e
          rw [List.map_cons, List.nodup_cons] at hn
          rcases List.mem_cons.1 h1 with q1 | q1
          · rcases List.mem_cons.1 h2 with q2 | q2
            · rw [q1, q2]
            · exact absurd (List.mem_map.2 ⟨r2, q2, (e.symm.trans (by rw [q1]))⟩) hn.1
          · rcases List.mem_cons.1 h2 with q2 | q2
            · exact absurd (List.mem_map.2 ⟨r1, q1, (e.trans (by rw [q2]))⟩) hn.1
            · exact ih hn.2 r1 q1 r2 q2 e
      exact inj hp1 r1 hr1 r2 hr2 he
  · rw [hU]
    obtain ⟨t1, t2, t3⟩ := ra.tmps
    have slot : ∀ t, t < la.n → Slot R a t ((la.tmps.get t).getD undef) := fun t ht => by
      refine ⟨t2 t ht, ?_⟩
      cases hg : la.tmps.get t with
      | none => exact wf_undef R
      | some v => exact (t3 t v hg).2
    refine ⟨t1.trans hkn.symm, rfl, fun t ht hd => ?_, fun t ht j hj hjt hd => slot t (by rw [← hkn]; exact ht)⟩
    rw [hkeep t fun e he he' => hD _ (hd e.1 (hall _ (List.mem_map.2 ⟨e, he, rfl⟩)) he')]
    exact slot t (by rw [← hkn]; exact ht)

/-- The local run is right. -/
theorem lrun_sound (P : Program) (c : Ctx) (orc : Orc) (hoo : OrcOk P c orc) (n : Nat) : SoundAll P c (lrun P orc (anyRun P orc) n) := lrun_ok hoo (any_ok P c orc hoo) n
end Go.Proofs.YtedfhallhpkkhaaGreatDoor.X
