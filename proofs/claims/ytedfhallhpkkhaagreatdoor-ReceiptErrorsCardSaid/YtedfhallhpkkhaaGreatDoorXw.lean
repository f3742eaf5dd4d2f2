/- Regions that draw: what a local run that succeeds says of each record and of each boundary. Any program. -/
import Derived.Test.YtedfhallhpkkhaaGreatDoorXv
set_option linter.unusedVariables false
set_option linter.unusedSimpArgs false
namespace Go.Proofs.YtedfhallhpkkhaaGreatDoor.X
open Go Go.RowKit

section
variable {P : Program} {orc : Orc} {ih : Task → Option Res} {ops : Array Oper} {base : Nat}

/-- What is known of a record. -/
def NOk (P : Program) (ops : Array Oper) (base : Nat) (r : NRec) : Prop :=
  ∃ o, ops[r.i]? = some o ∧ isEff o.op = false ∧ match r.k with
    | .skip => lwanted ops r.la o = false ∧ r.v = undef
    | .pure => lwanted ops r.la o = true ∧ lop P (lev r.la) ⟨.nil, BIG⟩ o = some (r.v, ⟨.nil, BIG⟩)
    | .read => lwanted ops r.la o = true ∧ isRead o.op = true
    | .zero x => lwanted ops r.la o = true ∧ slotsOk plain r.la (looksOf ops r.i) = true ∧ ∃ h1, lop P (lev r.la) ⟨.nil, base + r.i⟩ o = some (r.v, h1) ∧ h1.next = base + r.i + 1 ∧ h1.get (base + r.i) = some x
theorem isNilT_eq {t : T LO} (h : isNilT t = true) : t = .nil := by cases t with | nil => rfl | node l v r => cases h
theorem tryPure_ok {lr : LAct} {o : Oper} {v : Value} (h : tryPure P lr o = some v) : lop P (lev lr) ⟨.nil, BIG⟩ o = some (v, ⟨.nil, BIG⟩) := by
  unfold tryPure at h
  split at h
  case h_2 => cases h
  rename_i u h1 hl
  split at h
  case isFalse => cases h
  rename_i hn
  simp only [Option.some.injEq] at h
  subst h
  obtain ⟨t, n⟩ := h1
  obtain ⟨h2, h3⟩ := hn
  rw [hl]
  simp only at h2 h3
  rw [isNilT_eq h2, h3]
theorem tryZero_ok {lr : LAct} {i : Nat} {o : Oper} {v : Value} {x : LO} (h : tryZero P ops base lr i o = some (v, x)) :
    slotsOk plain lr (looksOf ops i) = true ∧ ∃ h1, lop P (lev lr) ⟨.nil, base + i⟩ o = some (v, h1) ∧ h1.next = base + i + 1 ∧ h1.get (base + i) = some x := by
  unfold tryZero at h
  split at h
  case isFalse => cases h
  rename_i hs
  split at h
  case h_2 => cases h
  rename_i u h1 hl
  split at h
  case isFalse => cases h
  rename_i hn
  split at h
  case h_2 => cases h
  rename_i y hy
  simp only [Option.some.injEq, Prod.mk.injEq] at h
  obtain ⟨rfl, rfl⟩ := h
  exact ⟨hs, h1, hl, hn, hy⟩
theorem nrec_ok {H : LH} {lr : LAct} {i : Nat} {o : Oper} {r : NRec} (ho : ops[i]? = some o) (h : nrec P ops base H lr i o = some r) : r.i = i ∧ r.la = lr ∧ NOk P ops base r := by
  unfold nrec at h
  split at h
  case isTrue => cases h
  rename_i he
  replace he : isEff o.op = false := by simpa using he
  have zero : ∀ {r}, ((tryZero P ops base lr i o).map fun p => (⟨i, lr, p.1, .zero p.2⟩ : NRec)) = some r → lwanted ops lr o = true → r.i = i ∧ r.la = lr ∧ NOk P ops base r := by
    intro r h hw
    cases hz : tryZero P ops base lr i o with
    | none => rw [hz] at h; cases h
    | some p =>
      rw [hz] at h
      simp only [Option.map_some, Option.some.injEq] at h
      subst h
      obtain ⟨v, x⟩ := p
      exact ⟨rfl, rfl, o, ho, he, hw, tryZero_ok hz⟩
  have pure : ∀ {v}, tryPure P lr o = some v → lwanted ops lr o = true → NOk P ops base ⟨i, lr, v, .pure⟩ := fun hv hw => ⟨o, ho, he, hw, tryPure_ok hv⟩
  split at h
  · rename_i hw
    split at h
    · rename_i hr
      split at h
      · rename_i v hv
        simp only [Option.some.injEq] at h
        subst h
        split at hv
        · exact ⟨rfl, rfl, pure hv hw⟩
        · cases hv
      · split at h
        · rename_i p hp
          split at hp
          · exact zero (by rw [hp]; exact h) hw
          · cases hp
        · cases hl : lop P (lev lr) H o with
          | none => rw [hl] at h; cases h
          | some p =>
            rw [hl] at h
            simp only [Option.map_some, Option.some.injEq] at h
            subst h
            exact ⟨rfl, rfl, o, ho, he, hw, hr⟩
    · split at h
      · exact zero h hw
      · cases hv : tryPure P lr o with
        | none => rw [hv] at h; cases h
        | some v =>
          rw [hv] at h
          simp only [Option.map_some, Option.some.injEq] at h
          subst h
          exact ⟨rfl, rfl, pure hv hw⟩
  · rename_i hw
    simp only [Option.some.injEq] at h
    subst h
    exact ⟨rfl, rfl, o, ho, he, by simpa using hw, rfl⟩
theorem dstOf_eq {i : Nat} {o : Oper} (ho : ops[i]? = some o) : dstOf ops i = o.dst := by simp [dstOf, ho]
theorem fwdN_ok {H : LH} : ∀ {l : List Nat} {la laF : LAct} {rs : List NRec}, fwdN P ops base H l la = some (rs, laF) → rs.map (·.i) = l ∧ Puts ops (rs.map NRec.ent) la laF ∧ ∀ r ∈ rs, NOk P ops base r
  | [], la, laF, rs, h => by
    simp only [fwdN, Option.some.injEq, Prod.mk.injEq] at h
    obtain ⟨rfl, rfl⟩ := h
    exact ⟨rfl, rfl, fun r hr => by cases hr⟩
  | i :: l, la, laF, rs, h => by
    simp only [fwdN] at h
    split at h
    case h_2 => cases h
    rename_i o ho
    split at h
    case h_2 => cases h
    rename_i r hr
    split at h
    case h_2 => cases h
    rename_i la1 hp
    split at h
    case h_2 => cases h
    rename_i rs1 la2 hf
    simp only [Option.some.injEq, Prod.mk.injEq] at h
    obtain ⟨rfl, rfl⟩ := h
    obtain ⟨h1, h2, h3⟩ := fwdN_ok hf
    obtain ⟨h4, h5, h6⟩ := nrec_ok ho hr
    refine ⟨by simp [h1, h4], ⟨by simp [NRec.ent, h4, h5], la1, ?_, h2⟩, fun r' hr' => ?_⟩
    · simp only [NRec.ent]
      rw [h4, dstOf_eq ho]
      exact hp
    · rcases List.mem_cons.1 hr' with rfl | hr'
      · exact h6
      · exact h3 r' hr'

/-- What is known of a read at a boundary: something that it waits for is not done, or it gives what it gives later. -/
def ReadOk (P : Program) (ops : Array Oper) (base : Nat) (H : LH) (es : List Nat) (r : NRec) : Prop :=
  r.k = .read → (∃ e ∈ es, Nat.testBit ((masks ops).getD r.i 0) e = true) ∨ (slotsOk (idsOk (avail base ops.size H)) r.la (looksOf ops r.i) = true ∧ ∃ o h, ops[r.i]? = some o ∧ lop P (lev r.la) H o = some (r.v, h) ∧ h.next = H.next)
theorem readAt_ok {H : LH} {es : List Nat} {r : NRec} (h : readAt P ops base H es r = true) : ReadOk P ops base H es r := by
  intro hk
  unfold readAt at h
  rw [hk] at h
  simp only [Bool.or_eq_true, List.any_eq_true, Bool.and_eq_true] at h
  rcases h with h | ⟨h1, h2⟩
  · exact .inl h
  · refine .inr ⟨h1, ?_⟩
    split at h2
    case h_2 => cases h2
    rename_i o ho
    split at h2
    case h_2 => cases h2
    rename_i v hh hv
    simp only [Bool.and_eq_true, Nat.beq_eq] at h2
    exact ⟨o, hh, ho, by rw [hv, veq_eq _ _ h2.2], h2.1⟩
def Good (P : Program) (orc : Orc) (ih : Task → Option Res) (ops : Array Oper) (base : Nat) (last : List NRec) (hF : LH) : LH → List DSeg → Prop
  | H, [] => H.next ≤ BIG ∧ (∀ r ∈ last, ReadOk P ops base H [] r) ∧ hF = absorb base H last
  | H, s :: rest => H.next ≤ BIG ∧ (∀ r ∈ s.ns ++ rest.flatMap (·.ns) ++ last, ReadOk P ops base H (s.e :: rest.map (·.e)) r) ∧ s.pre = absorb base H s.ns ∧
    slotsOk (idsOk (avail base ops.size s.pre)) s.la (looksOf ops s.e) = true ∧ (∃ o, ops[s.e]? = some o ∧ isSelect o.op = false ∧ (if lwanted ops s.la o = true then lexec P orc ih s.la s.pre o else some (undef, s.pre)) = some (s.v, s.post)) ∧ Good P orc ih ops base last hF s.post rest
theorem fwd_ok : ∀ {sg : Segs} {last : List Nat} {la laF : LAct} {H hF : LH} {ds : List DSeg} {rs : List NRec}, fwd P orc ih ops base sg last la H = some (ds, rs, laF, hF) →
    readsAt P ops base rs ds H = true →
    Good P orc ih ops base rs hF H ds ∧ Puts ops (entsOf ds rs) la laF ∧ ds.map (fun s => (s.ns.map (·.i), s.e)) = sg ∧ rs.map (·.i) = last ∧ (∀ s ∈ ds, ∀ r ∈ s.ns, NOk P ops base r) ∧ ∀ r ∈ rs, NOk P ops base r
  | [], last, la, laF, H, hF, ds, rs, h, hr => by
    simp only [fwd] at h
    split at h
    case h_2 => cases h
    rename_i rs1 la1 hf
    simp only [Option.some.injEq, Prod.mk.injEq] at h
    obtain ⟨rfl, rfl, rfl, rfl⟩ := h
    obtain ⟨h1, h2, h3⟩ := fwdN_ok hf
    simp only [readsAt, Bool.and_eq_true, List.all_eq_true] at hr
    exact ⟨⟨Nat.le_of_ble_eq_true hr.1, fun r hm => readAt_ok (hr.2 r hm), rfl⟩, h2, rfl, h1, fun s hs => (by cases hs), h3⟩
  | sg :: rest, last, la, laF, H, hF, ds, rs, h, hr => by
    simp only [fwd] at h
    split at h
    case h_2 => cases h
    rename_i rs1 la1 hf
    split at h
    case h_2 => cases h
    rename_i o ho
    split at h
    case isFalse => cases h
    rename_i hslots
    split at h
    case h_2 => cases h
    rename_i v post hex
    split at h
    case h_2 => cases h
    rename_i la2 hp
    split at h
    case h_2 => cases h
    rename_i ds1 rs2 laF1 hF1 hrec
    simp only [Option.some.injEq, Prod.mk.injEq] at h
    obtain ⟨rfl, rfl, rfl, rfl⟩ := h
    obtain ⟨h1, h2, h3⟩ := fwdN_ok hf
    simp only [readsAt, Bool.and_eq_true] at hr
    obtain ⟨⟨hr1, hr2⟩, hr3⟩ := hr
    rw [List.all_eq_true] at hr2
    obtain ⟨g1, g2, g3, g4, g5, g6⟩ := fwd_ok hrec hr3
    refine ⟨⟨Nat.le_of_ble_eq_true hr1, fun r hm => readAt_ok (hr2 r hm), rfl, hslots.1, ⟨o, ho, hslots.2, hex⟩, g1⟩, ?_, ?_, g4, ?_, g6⟩
    · have : entsOf (⟨rs1, absorb base H rs1, sg.2, restr la1 (looksOf ops sg.2), v, post⟩ :: ds1) rs2 = rs1.map NRec.ent ++ ((sg.2, restr la1 (looksOf ops sg.2), v) :: entsOf ds1 rs2) := by
        simp [entsOf, DSeg.ent]
      rw [this]
      exact Puts.append h2 ⟨rfl, la2, by rw [dstOf_eq ho]; exact hp, g2⟩
    · simp [g3, h1]
    · intro s hs r hm
      rcases List.mem_cons.1 hs with rfl | hs
      · exact h3 r hm
      · exact g5 s hs r hm
end
end Go.Proofs.YtedfhallhpkkhaaGreatDoor.X
