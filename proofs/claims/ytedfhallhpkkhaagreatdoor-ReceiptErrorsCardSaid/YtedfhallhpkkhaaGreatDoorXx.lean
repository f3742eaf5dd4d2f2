/- Regions that draw: the invariant of a run in any order, its heap's part. Any program. -/
import Derived.Test.YtedfhallhpkkhaaGreatDoorXw
set_option linter.unusedVariables false
set_option linter.unusedSimpArgs false
namespace Go.Proofs.YtedfhallhpkkhaaGreatDoor.X
open Go Go.RowKit

def uni (R Z : Map) : Map := fun i => match R i with | some x => some x | none => Z i
theorem uni_ext (R Z : Map) : R.ext (uni R Z) := by
  intro i x h
  unfold uni
  rw [h]
theorem uni_ext_both {R R' Z Z' : Map} (hR : R.ext R') (hZ : ∀ i y, R i = none → Z i = some y → uni R' Z' i = some y) : (uni R Z).ext (uni R' Z') := by
  intro i y h
  unfold uni at h
  cases hr : R i with
  | some x => rw [hr] at h; simp only [Option.some.injEq] at h; subst h; exact uni_ext R' Z' i x (hR i x hr)
  | none => rw [hr] at h; exact hZ i y hr h
def one (i b d : Nat) : Map := fun j => if j = i then some (b, d) else none
theorem one_ext {i b d : Nat} {R : Map} (h : R i = some (b, d)) : (one i b d).ext R := by
  intro j x hj
  unfold one at hj
  split at hj
  · rename_i e; subst e; rw [h]; exact hj
  · cases hj
theorem two_ext {i b d : Nat} {R : Map} (h0 : R 0 = some (0, 0)) (h : R i = some (b, d)) : ((one 0 0 0).put i b d).ext R := by
  intro j x hj
  unfold Map.put at hj
  split at hj
  · rename_i e; subst e; rw [h]; exact hj
  · exact one_ext h0 j x hj
theorem ORel.some {R : Map} {i : Nat} {o : LO} {H : Array Obj} {b : Nat} (h : ORel R i o H[b]?) : b < H.size := by
  rcases Nat.lt_or_ge b H.size with h3 | h3
  · exact h3
  · rw [Array.getElem?_eq_none h3] at h
    cases o with
    | cells => obtain ⟨_, _, _, h4, _⟩ := h; cases h4
    | map => simp only [ORel] at h; cases h.1
    | loop => obtain ⟨_, _, h4, _⟩ := h; cases h4
    | obj => simp only [ORel] at h; cases h.1

theorem Goes.of_keep {R : Map} {H : LH} {w w' : World} (r : HRel R H w.heap) (hs : w.heap.size ≤ w'.heap.size) (h1 : w'.os = w.os) (h2 : w'.tape = w.tape) (h3 : w'.output = w.output) (hk : ∀ b, b < w.heap.size → w'.heap[b]? = w.heap[b]?) : Goes R H w R H w' := by
  refine ⟨Map.ext_refl R, fun _ _ => rfl, ⟨fun i o hi => ?_, r.inj, r.fresh, r.glob.1, r.glob.2.1.of (hk 0 r.glob.2.1.pos), r.glob.2.2⟩, Nat.le_refl _, hs, h1, h2, h3, fun b hb _ => hk b hb, fun i o hi => .inl ⟨i, o, hi, rfl⟩⟩
  obtain ⟨h4, h5⟩ := r.ok i o hi
  refine ⟨h4, ?_⟩
  rw [hk _ (r.img_lt hi)]
  exact h5

structure HInv (ops : Array Oper) (base : Nat) (R0 : Map) (h0 : LH) (w0 : World) (D : Nat → Prop) (H : LH) (fut : List NRec) (R Z : Map) (w : World) : Prop where
  goes : Goes R0 h0 w0 R H w
  hbase : base = h0.next
  pos : 0 < w0.heap.size
  bpos : 0 < base
  resv : base + ops.size ≤ H.next
  idx : ∀ r ∈ fut, r.i < ops.size
  uniq : ∀ r ∈ fut, ∀ r' ∈ fut, r.i = r'.i → r = r'
  free : ∀ r ∈ fut, R (base + r.i) = none
  zero : ∀ r ∈ fut, ∀ x, r.k = .zero x → D r.i → (∃ b d, Z (base + r.i) = some (b, d) ∧ w0.heap.size ≤ b ∧ b < w.heap.size ∧ ORel ((one 0 0 0).put (base + r.i) b d) (base + r.i) x w.heap[b]? ∧ ∀ j oj, H.get j = some oj → R.b j ≠ b)
  zdom : ∀ k y, Z k = some y → ∃ r ∈ fut, ∃ x, r.k = .zero x ∧ D r.i ∧ k = base + r.i
  zinj : ∀ k k' y y', Z k = some y → Z k' = some y' → y.1 = y'.1 → k = k'

section
variable {ops : Array Oper} {base : Nat} {R0 : Map} {h0 : LH} {w0 : World} {D : Nat → Prop} {H : LH} {fut : List NRec} {R Z : Map} {w : World}
/-- The world goes on, and the heap. -/
theorem HInv.go {R' : Map} {H' : LH} {w' : World} (v : HInv ops base R0 h0 w0 D H fut R Z w) (g : Goes R H w R' H' w') : HInv ops base R0 h0 w0 D H' fut R' Z w' := by
  refine ⟨v.goes.trans g, v.hbase, v.pos, v.bpos, Nat.le_trans v.resv g.next, v.idx, v.uniq, fun r hr => ?_, fun r hr x hk hd => ?_, v.zdom, v.zinj⟩
  · have := v.idx r hr
    have := v.resv
    rw [g.old _ (by omega)]
    exact v.free r hr
  · obtain ⟨b, d, h1, h2, h3, h4, h5⟩ := v.zero r hr x hk hd
    have hf := g.frame b h3 h5
    refine ⟨b, d, h1, h2, Nat.lt_of_lt_of_le h3 g.size, by rw [hf]; exact h4, fun j oj hj e => ?_⟩
    rcases g.img j oj hj with ⟨j', o', hj', hb⟩ | hge
    · exact h5 j' o' hj' (hb.trans e)
    · omega
/-- A zero that was made early is taken up. -/
theorem HInv.adopt {r : NRec} {x : LO} (v : HInv ops base R0 h0 w0 D H (r :: fut) R Z w) (hk : r.k = .zero x) (hd : D r.i) (hnd : ∀ r' ∈ fut, r'.i ≠ r.i) :
    ∃ R' Z', HInv ops base R0 h0 w0 D (H.put (base + r.i) x) fut R' Z' w ∧ uni R' Z' = uni R Z := by
  obtain ⟨b, d, h1, h2, h3, h4, h5⟩ := v.zero r (by simp) x hk hd
  have hfree := v.free r (by simp)
  have hidx := v.idx r (by simp)
  have hres := v.resv
  have hext : R.ext (R.put (base + r.i) b d) := Map.put_ext hfree
  have hb : ∀ j oj, H.get j = some oj → (R.put (base + r.i) b d).b j = R.b j := fun j oj hj => Map.ext_b hext (v.goes.rel.ok j oj hj).1
  have hself : (R.put (base + r.i) b d) (base + r.i) = some (b, d) := by simp [Map.put]
  have hother : ∀ k, k ≠ base + r.i → (R.put (base + r.i) b d) k = R k := fun k hk => by simp [Map.put, hk]
  have hne : ∀ j oj, H.get j = some oj → j ≠ base + r.i := fun j oj hj e => by
    have := (v.goes.rel.ok j oj hj).1
    rw [e, hfree] at this
    cases this
  refine ⟨R.put (base + r.i) b d, fun k => if k = base + r.i then none else Z k, ⟨⟨Map.ext_trans v.goes.ext hext, fun i hi => ?_, ⟨fun i o hi => ?_, fun i j oi oj hi hj e => ?_, fun i hi => ?_, hext 0 _ v.goes.rel.glob.1, v.goes.rel.glob.2.1, fun i o hi => ?_⟩, v.goes.next, v.goes.size, v.goes.os, v.goes.tape, v.goes.output, v.goes.frame, fun i o hi => ?_⟩, v.hbase, v.pos, v.bpos, v.resv, fun r' hr' => v.idx r' (by simp [hr']), fun r1 h1 r2 h2 => v.uniq r1 (by simp [h1]) r2 (by simp [h2]), fun r' hr' => ?_, fun r' hr' y hk' hd' => ?_, fun k y hy => ?_, fun k k' y y' hy hy' e => ?_⟩, ?_⟩
  · rw [hother i (by have := v.hbase; omega)]; exact v.goes.old i hi
  · rw [LH.get_put] at hi
    by_cases he : i = base + r.i
    · subst he
      simp only [if_true, Option.some.injEq] at hi
      subst hi
      refine ⟨by rw [hself]; rfl, ?_⟩
      have : (R.put (base + r.i) b d).b (base + r.i) = b := by simp [Map.b, hself]
      rw [this]
      exact h4.ext (two_ext (hext 0 _ v.goes.rel.glob.1) hself) (Map.put_isSome _ _ _ _)
    · rw [if_neg he] at hi
      obtain ⟨g1, g2⟩ := v.goes.rel.ok i o hi
      refine ⟨Map.ext_isSome hext g1, ?_⟩
      rw [hb i o hi]
      exact g2.ext hext g1
  · rw [LH.get_put] at hi hj
    have hbs : (R.put (base + r.i) b d).b (base + r.i) = b := by simp [Map.b, hself]
    by_cases he : i = base + r.i
    · by_cases he' : j = base + r.i
      · rw [he, he']
      · rw [if_neg he'] at hj
        rw [he, hbs, hb j oj hj] at e
        exact absurd e.symm (h5 j oj hj)
    · rw [if_neg he] at hi
      by_cases he' : j = base + r.i
      · rw [he', hbs, hb i oi hi] at e
        exact absurd e (h5 i oi hi)
      · rw [if_neg he'] at hj
        rw [hb i oi hi, hb j oj hj] at e
        exact v.goes.rel.inj i j oi oj hi hj e
  · have hi' : H.next ≤ i := hi
    rw [hother i (by omega)]
    exact v.goes.rel.fresh i hi'
  · rw [LH.get_put] at hi
    by_cases he : i = base + r.i
    · subst he
      have : (R.put (base + r.i) b d).b (base + r.i) = b := by simp [Map.b, hself]
      rw [this]
      have := v.pos
      omega
    · rw [if_neg he] at hi
      rw [hb i o hi]
      exact v.goes.rel.glob.2.2 i o hi
  · rw [LH.get_put] at hi
    by_cases he : i = base + r.i
    · subst he
      have : (R.put (base + r.i) b d).b (base + r.i) = b := by simp [Map.b, hself]
      rw [this]
      exact .inr h2
    · rw [if_neg he] at hi
      rw [hb i o hi]
      exact v.goes.img i o hi
  · rw [hother _ (by have := hnd r' hr'; omega)]
    exact v.free r' (by simp [hr'])
  · obtain ⟨b', d', g1, g2, g3, g4, g5⟩ := v.zero r' (by simp [hr']) y hk' hd'
    have hi := hnd r' hr'
    refine ⟨b', d', by rw [if_neg (by omega)]; exact g1, g2, g3, g4, fun j oj hj e => ?_⟩
    rw [LH.get_put] at hj
    by_cases he : j = base + r.i
    · subst he
      have : (R.put (base + r.i) b d).b (base + r.i) = b := by simp [Map.b, hself]
      rw [this] at e
      have := v.zinj _ _ _ _ h1 g1 e
      omega
    · rw [if_neg he] at hj
      rw [hb j oj hj] at e
      exact g5 j oj hj e
  · split at hy
    · cases hy
    · rename_i hne'
      obtain ⟨r', hr', x', g1, g2, g3⟩ := v.zdom k y hy
      rcases List.mem_cons.1 hr' with rfl | hr'
      · exact absurd g3 hne'
      · exact ⟨r', hr', x', g1, g2, g3⟩
  · split at hy
    · cases hy
    · split at hy'
      · cases hy'
      · exact v.zinj k k' y y' hy hy' e
  · funext k
    unfold uni
    by_cases he : k = base + r.i
    · subst he; rw [hself, hfree, h1]
    · simp only [hother k he, he, if_false]
theorem HInv.drop {r : NRec} (v : HInv ops base R0 h0 w0 D H (r :: fut) R Z w) (hk : ∀ x, r.k ≠ .zero x) : HInv ops base R0 h0 w0 D H fut R Z w := by
  refine ⟨v.goes, v.hbase, v.pos, v.bpos, v.resv, fun r' hr' => v.idx r' (by simp [hr']), fun r1 h1 r2 h2 => v.uniq r1 (by simp [h1]) r2 (by simp [h2]), fun r' hr' => v.free r' (by simp [hr']), fun r' hr' => v.zero r' (by simp [hr']), fun k y hy => ?_, v.zinj⟩
  obtain ⟨r', hr', x', g1, g2, g3⟩ := v.zdom k y hy
  rcases List.mem_cons.1 hr' with rfl | hr'
  · exact absurd g1 (hk x')
  · exact ⟨r', hr', x', g1, g2, g3⟩
theorem HInv.absorb : ∀ {ns : List NRec} {H : LH} {R Z : Map}, HInv ops base R0 h0 w0 D H (ns ++ fut) R Z w → (∀ r ∈ ns, D r.i) → ((ns ++ fut).map (·.i)).Nodup →
    ∃ R' Z', HInv ops base R0 h0 w0 D (absorb base H ns) fut R' Z' w ∧ uni R' Z' = uni R Z
  | [], H, R, Z, v, _, _ => ⟨R, Z, v, rfl⟩
  | r :: ns, H, R, Z, v, hd, hn => by
    simp only [List.cons_append, List.map_cons, List.nodup_cons] at hn
    obtain ⟨hn1, hn2⟩ := hn
    cases hk : r.k with
    | zero x =>
      obtain ⟨R1, Z1, v1, e1⟩ := HInv.adopt v hk (hd r (by simp)) (fun r' hr' e => hn1 (List.mem_map.2 ⟨r', hr', e⟩))
      obtain ⟨R2, Z2, v2, e2⟩ := HInv.absorb v1 (fun r hr => hd r (by simp [hr])) hn2
      refine ⟨R2, Z2, ?_, e2.trans e1⟩
      simp only [X.absorb, hk]
      exact v2
    | skip =>
      obtain ⟨R2, Z2, v2, e2⟩ := HInv.absorb (HInv.drop v (by simp [hk])) (fun r hr => hd r (by simp [hr])) hn2
      exact ⟨R2, Z2, by simp only [X.absorb, hk]; exact v2, e2⟩
    | pure =>
      obtain ⟨R2, Z2, v2, e2⟩ := HInv.absorb (HInv.drop v (by simp [hk])) (fun r hr => hd r (by simp [hr])) hn2
      exact ⟨R2, Z2, by simp only [X.absorb, hk]; exact v2, e2⟩
    | read =>
      obtain ⟨R2, Z2, v2, e2⟩ := HInv.absorb (HInv.drop v (by simp [hk])) (fun r hr => hd r (by simp [hr])) hn2
      exact ⟨R2, Z2, by simp only [X.absorb, hk]; exact v2, e2⟩
/-- One more is done that is no zero. -/
theorem HInv.mark {i : Nat} (v : HInv ops base R0 h0 w0 D H fut R Z w) (hk : ∀ r ∈ fut, r.i = i → ∀ x, r.k ≠ .zero x) : HInv ops base R0 h0 w0 (fun j => D j ∨ j = i) H fut R Z w := by
  refine ⟨v.goes, v.hbase, v.pos, v.bpos, v.resv, v.idx, v.uniq, v.free, fun r hr x hx hd => ?_, fun k y hy => ?_, v.zinj⟩
  · rcases hd with hd | hd
    · exact v.zero r hr x hx hd
    · exact absurd hx (hk r hr hd x)
  · obtain ⟨r', hr', x', g1, g2, g3⟩ := v.zdom k y hy
    exact ⟨r', hr', x', g1, .inl g2, g3⟩
/-- One more zero is made. -/
theorem HInv.made {r : NRec} {x : LO} {b d : Nat} (v : HInv ops base R0 h0 w0 D H fut R Z w) (hr : r ∈ fut) (hk : r.k = .zero x) (hd : ¬ D r.i) (h2 : w0.heap.size ≤ b) (h4 : ORel ((one 0 0 0).put (base + r.i) b d) (base + r.i) x w.heap[b]?)
    (h5 : ∀ j oj, H.get j = some oj → R.b j ≠ b) (h6 : ∀ k y, Z k = some y → y.1 ≠ b) :
    HInv ops base R0 h0 w0 (fun j => D j ∨ j = r.i) H fut R (Z.put (base + r.i) b d) w ∧ (uni R Z).ext (uni R (Z.put (base + r.i) b d)) ∧ uni R (Z.put (base + r.i) b d) (base + r.i) = some (b, d) := by
  have hz : Z (base + r.i) = none := by
    cases hz : Z (base + r.i) with
    | none => rfl
    | some y =>
      obtain ⟨r', hr', x', g1, g2, g3⟩ := v.zdom _ y hz
      have : r.i = r'.i := by omega
      rw [← this] at g2
      exact absurd g2 hd
  have hother : ∀ k, k ≠ base + r.i → (Z.put (base + r.i) b d) k = Z k := fun k hk => by simp [Map.put, hk]
  have hself : (Z.put (base + r.i) b d) (base + r.i) = some (b, d) := by simp [Map.put]
  refine ⟨⟨v.goes, v.hbase, v.pos, v.bpos, v.resv, v.idx, v.uniq, v.free, fun r' hr' x' hx hd' => ?_, fun k y hy => ?_, fun k k' y y' hy hy' e => ?_⟩, ?_, ?_⟩
  · by_cases he : r'.i = r.i
    · have := v.uniq r' hr' r hr he
      subst this
      rw [hk] at hx
      simp only [NK.zero.injEq] at hx
      subst hx
      exact ⟨b, d, hself, h2, h4.some, h4, h5⟩
    · obtain ⟨b', d', g1, g2⟩ := v.zero r' hr' x' hx (hd'.resolve_right he)
      exact ⟨b', d', by rw [hother _ (by omega)]; exact g1, g2⟩
  · by_cases he : k = base + r.i
    · exact ⟨r, hr, x, hk, .inr rfl, he⟩
    · rw [hother k he] at hy
      obtain ⟨r', hr', x', g1, g2, g3⟩ := v.zdom k y hy
      exact ⟨r', hr', x', g1, .inl g2, g3⟩
  · by_cases he : k = base + r.i
    · by_cases he' : k' = base + r.i
      · rw [he, he']
      · rw [he, hself, Option.some.injEq] at hy
        rw [hother k' he'] at hy'
        subst hy
        exact absurd e.symm (h6 k' y' hy')
    · rw [hother k he] at hy
      by_cases he' : k' = base + r.i
      · rw [he', hself, Option.some.injEq] at hy'
        subst hy'
        exact absurd e (h6 k y hy)
      · rw [hother k' he'] at hy'
        exact v.zinj k k' y y' hy hy' e
  · refine uni_ext_both (Map.ext_refl R) fun i y hi hy => ?_
    unfold uni
    rw [hi]
    by_cases he : i = base + r.i
    · rw [he, hz] at hy; cases hy
    · simp only; rw [hother i he]; exact hy
  · unfold uni
    rw [v.free r hr]
    exact hself
end
end Go.Proofs.YtedfhallhpkkhaaGreatDoor.X
