/- codec.Reader: Number, Text, Failed, Rest, Close; NewReader. -/
import Derived.Test.YtedfhallhpkkhaaGreatDoorZ5
import Derived.OwnWalk
import Derived.Maps.Range
set_option linter.unusedVariables false
set_option linter.unusedSimpArgs false
namespace Go.Proofs.YtedfhallhpkkhaaGreatDoor.X
open Go Go.RowKit

theorem Rd.lt {w : World} {R B cap : Nat} {bs : List UInt8} {i : Nat} {f : Int} (h : Rd w R B cap bs i f) : R < w.heap.size ∧ B < w.heap.size := by
  obtain ⟨cs, fz, h3, h4⟩ := h.row
  exact ⟨(Array.getElem?_eq_some_iff.1 h.obj).1, (Array.getElem?_eq_some_iff.1 h3).1⟩
theorem Rd.alloc {w : World} {R B cap : Nat} {bs : List UInt8} {i : Nat} {f : Int} (h : Rd w R B cap bs i f) (o : Obj) : Rd (w.alloc o) R B cap bs i f :=
  h.kept (Below.heap_alloc w o R h.lt.1) (Below.heap_alloc w o B h.lt.2)
theorem heap_new (w : World) (o : Obj) : (w.alloc o).heap[w.heap.size]? = some o := by
  show (w.heap.push o)[w.heap.size]? = _
  simp
theorem cell_new (w : World) (v : Value) (t : TypeId) : (w.alloc (.cells #[v] t)).cell? ⟨w.heap.size, 0, none⟩ = some v := by
  have : (w.alloc (.cells #[v] t)).heap[w.heap.size]? = some (.cells #[v] t) := by
    show (w.heap.push (.cells #[v] t))[w.heap.size]? = _
    simp
  rw [cell_of_heap this]
  rfl
set_option maxRecDepth 100000 in
set_option maxHeartbeats 1000000 in
theorem number_any (R B cap i : Nat) (f most : Int) (bs : List UInt8) (w : World) (h : Rd w R B cap bs i f) :
    Calls Tryz.prog 35 #[.pointer (some ⟨R, 0, none⟩), .int .i64 most] w fun e w' => e = .returned (.int .i64 (rdNum bs i f most).1) ∧ Rd w' R B cap bs (rdNum bs i f most).2.1 (rdNum bs i f most).2.2 ∧ w.grownBy w' (some R) := by
  have hC := readI_any R B cap w.heap.size i f most bs (w.alloc (.cells #[.int .i64 most] 3)) (h.alloc _) (cell_new _ _ _)
  go_enter Tryz.func35, Tryz.ntmps35
  go_wp2_with (go_at_call 99; refine hC.mono ?_; rintro e w' ⟨rfl, h1, h2⟩)
  go_ret
  exact ⟨rfl, h1, (World.grownBy_alloc _ _ _).trans h2⟩
set_option maxRecDepth 100000 in
set_option maxHeartbeats 1000000 in
theorem text_any (R B cap i : Nat) (f most : Int) (bs : List UInt8) (w : World) (hmost : ¬ (16777216 < most)) (h : Rd w R B cap bs i f) :
    Calls Tryz.prog 34 #[.pointer (some ⟨R, 0, none⟩), .int .i64 most] w fun e w' => e = .returned (str (rdTxt bs i f most).1) ∧ Rd w' R B cap bs (rdTxt bs i f most).2.1 (rdTxt bs i f most).2.2 ∧ w.grownBy w' (some R) := by
  have hC := readS_any R B cap w.heap.size i f most bs (w.alloc (.cells #[.int .i64 most] 3)) (h.alloc _) hmost (cell_new _ _ _)
  go_enter Tryz.func34, Tryz.ntmps34
  go_wp2_with (go_at_call 96; refine hC.mono ?_; rintro e w' ⟨rfl, h1, h2⟩)
  go_ret
  exact ⟨rfl, h1, (World.grownBy_alloc _ _ _).trans h2⟩
set_option maxRecDepth 100000 in
set_option maxHeartbeats 1000000 in
theorem rest_any (R B cap i : Nat) (f : Int) (bs : List UInt8) (w : World) (h : Rd w R B cap bs i f) :
    Calls Tryz.prog 101 #[.pointer (some ⟨R, 0, none⟩)] w fun e w' => e = .returned (.int .i64 ((bs.length : Int) - i)) ∧ Rd w' R B cap bs i f ∧ w.grownBy w' none := by
  have c0 := h.c0
  have c1 := h.c1
  have hle := h.le
  have hshort := h.short
  have hw : (bs.length : Int) - i ≤ 1000000 := by omega
  have hw0 : 0 ≤ (bs.length : Int) - i := by omega
  have hk : Rd w.drew R B cap bs i f := h.kept rfl rfl
  clear hle
  go_enter Tryz.func101, Tryz.ntmps101
  go_wp2
  go_region
  all_goals go_wp2
  all_goals go_ret
  all_goals exact ⟨rfl, hk, grown_drew (World.grownBy.refl _ _)⟩
set_option maxRecDepth 100000 in
set_option maxHeartbeats 1000000 in
theorem failed_any (R B cap i : Nat) (f : Int) (bs : List UInt8) (w : World) (h : Rd w R B cap bs i f) :
    Calls Tryz.prog 36 #[.pointer (some ⟨R, 0, none⟩)] w fun e w' => (∃ x : Int, e = .returned (.tuple #[.int .i64 x, .int .i64 f])) ∧ Rd w' R B cap bs i f ∧ w.grownBy w' none := by
  have c1 := h.c1
  have c2 := h.c2
  have hk : Rd w.drew R B cap bs i f := h.kept rfl rfl
  by_cases hf : f = 0
  · subst hf
    go_enter Tryz.func36, Tryz.ntmps36
    go_wp2
    go_ret2
    exact ⟨⟨_, rfl⟩, h, World.grownBy.refl _ _⟩
  · have hf' : (f == 0) = false := by simpa using hf
    go_enter Tryz.func36, Tryz.ntmps36
    go_wp2
    go_region
    all_goals go_wp2
    all_goals go_ret2
    all_goals exact ⟨⟨_, rfl⟩, hk, grown_drew (World.grownBy.refl _ _)⟩
/-- What Close gives. -/
def clsF (bs : List UInt8) (i : Nat) (f : Int) : Int := if f = 0 then (if i = bs.length then 0 else 5) else f
set_option maxRecDepth 100000 in
set_option maxHeartbeats 1000000 in
theorem close_any (R B cap i : Nat) (f : Int) (bs : List UInt8) (w : World) (h : Rd w R B cap bs i f) :
    Calls Tryz.prog 37 #[.pointer (some ⟨R, 0, none⟩)] w fun e w' => e = .returned (.int .i64 (clsF bs i f)) ∧ Rd w' R B cap bs i f ∧ w.grownBy w' none := by
  have c2 := h.c2
  have hC := rest_any R B cap i f bs w h
  have hle := h.le
  unfold clsF
  by_cases hf : f = 0
  · subst hf
    rw [if_pos rfl]
    by_cases hi : i = bs.length
    · rw [if_pos hi]
      have hr : ((bs.length : Int) - i) = 0 := by omega
      rw [hr] at hC
      clear hr hle
      go_enter Tryz.func37, Tryz.ntmps37
      go_wp2_with (go_at_call 101; refine hC.mono ?_; rintro e w' ⟨rfl, h1, h2⟩; have d2 := h1.c2)
      go_ret
      exact ⟨rfl, h1, h2⟩
    · rw [if_neg hi]
      obtain ⟨r, hr⟩ : ∃ r : Int, (bs.length : Int) - i = r := ⟨_, rfl⟩
      have hr0 : (r == 0) = false := by simp; omega
      have hr1 : 0 < r := by omega
      rw [hr] at hC
      clear hr hle
      go_enter Tryz.func37, Tryz.ntmps37
      go_wp2_with (go_at_call 101; refine hC.mono ?_; rintro e w' ⟨rfl, h1, h2⟩; have d2 := h1.c2)
      go_ret
      exact ⟨rfl, h1, h2⟩
  · rw [if_neg hf]
    have hf' : (f == 0) = false := by simpa using hf
    clear hle
    go_enter Tryz.func37, Tryz.ntmps37
    go_wp2
    go_ret
    exact ⟨rfl, h, World.grownBy.refl _ _⟩
theorem Tryz.info5 : (Tryz.prog.info? 5).map (fun i => (i.zero, i.size, i.bytes)) = some (some (.int .u8 0), 1, 1) := by kernel_rfl
def cellsOfBytes (bs : List UInt8) : List Value := bs.map fun b => Value.int .u8 b.toNat
theorem bytes_one (bs : List UInt8) : ∀ u ∈ cellsOfBytes bs, u.oneCell' = true := by
  intro u hu
  obtain ⟨b, _, rfl⟩ := List.mem_map.1 hu
  rfl
theorem bytes_get (bs : List UInt8) (j : Nat) (u : Value) (h : (cellsOfBytes bs)[j]? = some u) : j < bs.length ∧ u = .int .u8 (bs[j]?.getD 0).toNat := by
  unfold cellsOfBytes at h
  rw [List.getElem?_map] at h
  cases hb : bs[j]? with
  | none => rw [hb] at h; cases h
  | some b =>
    rw [hb] at h
    cases h
    exact ⟨(List.getElem?_eq_some_iff.1 hb).1, rfl⟩
/-- A row that owns bytes, read by a reader. -/
theorem row_of_own {w : World} {base : Nat} {v : Value} {n : Nat} {bs : List UInt8} (h : w.ownsRow base 5 1 v n (cellsOfBytes bs)) (hv : v ≠ .slice none 0 0) :
    ∃ g cap, v = .slice (some ⟨g, 0, none⟩) bs.length cap ∧ n = bs.length ∧ base ≤ g ∧ g < w.heap.size ∧ bs.length ≤ cap ∧ ∃ cs fz, w.heap[g]? = some (.cells cs 5 fz) ∧ ∀ (j : Nat), j < bs.length → cs[j]? = some (.int .u8 (bs[j]?.getD 0).toNat) := by
  obtain ⟨h1, h2⟩ := h
  have hn : n = bs.length := by unfold cellsOfBytes at h1; simp at h1; omega
  subst hn
  rcases h2 with ⟨h, _⟩ | ⟨g, cap, cur, h3, h4, h5, h6, h7, h8, h9⟩
  · exact absurd h hv
  · refine ⟨g, cap, h3, rfl, h4, (Array.getElem?_eq_some_iff.1 h5).1, h6, cur, (0, 0), h5, fun j hj => ?_⟩
    have e : (cur.toList.take (bs.length * 1))[j]? = (cellsOfBytes bs)[j]? := by rw [h9]
    rw [List.getElem?_take, if_pos (by omega)] at e
    rw [← Array.getElem?_toList, e]
    unfold cellsOfBytes
    rw [List.getElem?_map, List.getElem?_eq_getElem hj]
    rfl
set_option maxRecDepth 100000 in
set_option maxHeartbeats 1000000 in
theorem newReader_any (A cap : Nat) (bs : List UInt8) (w : World) (hlen : bs.length ≤ 1000000)
    (hc : ∀ (i : Nat), i < bs.length → w.cell? ⟨A, i, none⟩ = some (.int .u8 (bs[i]?.getD 0).toNat)) :
    Calls Tryz.prog 32 #[.slice (some ⟨A, 0, none⟩) bs.length cap] w fun e w' => ∃ R B c, e = .returned (.pointer (some ⟨R, 0, none⟩)) ∧ Rd w' R B c bs 0 0 ∧ w.grownBy w' none ∧ w.heap.size ≤ R ∧ w.heap.size ≤ B := by
  obtain ⟨i0, hi, hz0, hz1, hz2⟩ := info_parts Tryz.info5
  have hml : 1000000 ≤ maxLen := by decide
  have hA : ∀ j, j < bs.length → A < w.heap.size := fun j hj => by
    have := hc j hj
    rcases Nat.lt_or_ge A w.heap.size with h | h
    · exact h
    · simp [World.cell?, Array.getElem?_eq_none h] at this
  go_enter Tryz.func32, Tryz.ntmps32
  go_wp2_with (at_builtin; refine wpList_append_own _ rfl _ _ 63 rfl w.heap.size 5 i0 (.int .u8 0) 1 1 Tryz.underlying63 hi hz0 hz1 hz2 rfl (by decide) _ _ [] rfl (World.ownsRow_made w #[] 0 (Nat.le_refl _) (by decide) rfl) ⟨A, 0, none⟩ bs.length cap (cellsOfBytes bs) rfl (by simp [cellsOfBytes]) ?hnew (bytes_one bs) (by omega) (by omega) (by simp) ?_)
  case hnew =>
    intro j u hu
    obtain ⟨h1, rfl⟩ := bytes_get bs j u hu
    rw [Addr.add_lit, Nat.zero_add]
    rw [← hc j h1]
    unfold World.cell?
    rw [Below.heap_alloc _ _ _ (hA j h1)]
  intro v' w1 hown hgrow hnil
  obtain ⟨g, c, rfl, -, hb, hlt, hcap, hrow⟩ := row_of_own hown hnil
  have hg1 : w.grownBy w1 none := (World.grownBy_alloc w _ none).andThen hgrow (by intro j hj; simp only [Value.ownBlock, Option.some.injEq] at hj; omega)
  go_wp2
  go_ret
  refine ⟨_, g, c, rfl, ⟨?_, ?_, Nat.zero_le _, hcap, hlen⟩, ?_, hg1.size, hb⟩
  · exact heap_new w1 _
  · obtain ⟨cs, fz, h1, h2⟩ := hrow
    exact ⟨cs, fz, (Below.heap_alloc w1 _ g hlt).trans h1, h2⟩
  · exact hg1.trans (World.grownBy_alloc w1 _ none)
end Go.Proofs.YtedfhallhpkkhaaGreatDoor.X
