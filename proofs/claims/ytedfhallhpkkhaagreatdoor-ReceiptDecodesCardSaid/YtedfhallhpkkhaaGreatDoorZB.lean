/- codec.Writer: NewWriter, Number, Text, Bytes. -/
import Derived.Test.YtedfhallhpkkhaaGreatDoorZ9
import Derived.Lib.ConvBytes
set_option linter.unusedVariables false
set_option linter.unusedSimpArgs false
namespace Go.Proofs.YtedfhallhpkkhaaGreatDoor.X
open Go Go.RowKit

theorem KT.alloc (w : World) (o : Obj) : KT w (w.alloc o) := KT.of_none (World.grownBy_alloc w o none)
theorem own_kept {w w' : World} {base : Nat} {e : TypeId} {size : Nat} {v : Value} {n : Nat} {xs : List Value} (h : w.ownsRow base e size v n xs) (g : w.grownBy w' none) : w'.ownsRow base e size v n xs :=
  h.kept g (by cases hv : v.ownBlock with
    | none => exact .inl rfl
    | some k => exact .inr (by simp))
theorem Wr.grown {base : Nat} {w w' : World} {W : Nat} {o : Option Addr} {c : Nat} {bs : List UInt8} (h : Wr base w W o c bs) (g : w.grownBy w' none) : Wr base w' W o c bs :=
  ⟨h.low, (g.block W (Array.getElem?_eq_some_iff.1 h.obj).1 (by simp)).trans h.obj, own_kept h.own g⟩
theorem Wr.lt {base : Nat} {w : World} {W : Nat} {o : Option Addr} {c : Nat} {bs : List UInt8} (h : Wr base w W o c bs) : W < w.heap.size := (Array.getElem?_eq_some_iff.1 h.obj).1
set_option maxRecDepth 100000 in
set_option maxHeartbeats 1000000 in
theorem newWriter_any (w : World) :
    Calls Tryz.prog 44 #[] w fun e w' => e = .returned (.pointer (some ⟨w.heap.size, 0, none⟩)) ∧ Wr w.heap.size w' w.heap.size none 0 [] ∧ w.grownBy w' none := by
  go_enter Tryz.func44, Tryz.ntmps44
  go_wp2
  go_ret
  refine ⟨rfl, ⟨Nat.le_refl _, heap_new w _, World.ownsRow_nil _ _ _ _⟩, World.grownBy_alloc w _ none⟩
theorem own_part {w : World} {base : Nat} {v : Value} {n : Nat} {bs : List UInt8} (h : w.ownsRow base 5 1 v n (cellsOfBytes bs)) (hv : v ≠ .slice none 0 0) :
    ∃ g c cs, v = .slice (some ⟨g, 0, none⟩) bs.length c ∧ n = bs.length ∧ base ≤ g ∧ w.heap[g]? = some (.cells cs 5 (0, 0)) ∧ ∀ (j : Nat), j < bs.length → cs[j]? = some (.int .u8 (bs[j]?.getD 0).toNat) := by
  obtain ⟨g, c, rfl, rfl, h1, h2, h3, cs, fz, h4, h5⟩ := row_of_own h hv
  obtain ⟨cs', h6⟩ := own_type h rfl
  rw [h4] at h6
  cases h6
  exact ⟨g, c, cs, rfl, rfl, h1, h4, h5⟩
theorem Wr.own_low {base : Nat} {w : World} {W : Nat} {o : Option Addr} {c : Nat} {bs : List UInt8} (h : Wr base w W o c bs) {g : Nat} (hg : w.heap.size ≤ g) : some g ≠ (Value.slice o bs.length c).ownBlock := fun e => by
  have := (h.own.lt g e.symm).2
  omega
set_option maxRecDepth 100000 in
set_option maxHeartbeats 1000000 in
theorem wnum_any (base W : Nat) (o : Option Addr) (c : Nat) (bs : List UInt8) (n : Nat) (w : World) (hw : Wr base w W o c bs) (hn : n < 2 ^ 63) (hlen : bs.length ≤ 999000) (hbase : base ≤ w.heap.size) :
    Calls Tryz.prog 47 #[.pointer (some ⟨W, 0, none⟩), .int .i64 n] w fun e w' => e = .returned (.tuple #[]) ∧ ∃ o' c', Wr base w' W o' c' (bs ++ encN n) ∧ KT w w' ∧ Below base w w' := by
  have hC := natural_any n w hn
  have hel := encN_len n (by omega)
  have hwr : IntKind.u64.wrap (n : Int) = (n : Int) := IntWalk.u64_in _ (by omega)
  go_enter Tryz.func47, Tryz.ntmps47
  go_wp2_with (go_at_call 113; refine hC.mono ?_; rintro e w1 ⟨v, rfl, h1, h2, h3⟩; obtain ⟨g, cg, cs, rfl, hl, h4, h5, h6⟩ := own_part h1 h2)
  have hP := heap_new w1 (.cells #[.slice (some ⟨g, 0, none⟩) (encN n).length cg] 63)
  have hg1 := World.grownBy_alloc w1 (.cells #[.slice (some ⟨g, 0, none⟩) (encN n).length cg] 63) none
  have hglt : g < w1.heap.size := (Array.getElem?_eq_some_iff.1 h5).1
  have hW := write_any base W w1.heap.size o c bs [encN n] (w1.alloc (.cells #[.slice (some ⟨g, 0, none⟩) (encN n).length cg] 63)) (hw.grown (h3.trans hg1)) (by simp; omega) (by simp) ⟨_, _, _, hP, by decide, by decide⟩ (Nat.le_trans hbase (h3.trans hg1).size) (by
    intro j hj
    obtain rfl : j = 0 := by simpa using hj
    refine ⟨g, cg, cs, (0, 0), cell_of_heap hP, (hg1.block g hglt (by simp)).trans h5, .inr ⟨rfl, hw.own_low h4⟩, h6⟩)
  refine hW.mono ?_
  rintro e w2 ⟨rfl, o', c', k1, k2, k3⟩
  go_wp2
  refine bodyPost_end (results_none rfl _ _ _) rfl ?_
  refine ⟨rfl, o', c', by simpa using k1, ((KT.of_none h3).trans (KT.alloc _ _)).trans k2, ((Below.refl base w).grown (h3.trans hg1) hbase (by simp)).trans k3⟩
theorem grown_bytes (w : World) (e : TypeId) (s : ByteArray) : w.grownBy (Lib.bytesWorld w e s) none :=
  ⟨rfl, rfl, rfl, by rw [Lib.bytesWorld_size]; omega, fun k hk _ => Lib.bytesWorld_at_old w e s k hk⟩
theorem str_size (l : List UInt8) : (⟨l.toArray⟩ : ByteArray).size = l.length := by simp [ByteArray.size]
theorem bytesCells_get (w : World) (e : TypeId) (l : List UInt8) (j : Nat) (hj : j < l.length) : (Lib.bytesCells w e ⟨l.toArray⟩)[j]? = some (.int .u8 (l[j]?.getD 0).toNat) := by
  unfold Lib.bytesCells
  rw [Array.getElem?_append_left (by simpa using hj)]
  simp [List.getElem?_eq_getElem hj]
theorem conv_str (l : List UInt8) (W : World) : (convert 9 63 (str l)).run Tryz.prog W = .ok (.slice (some ⟨W.heap.size, 0, none⟩) l.length (grownCap W l.length 0 5)) (Lib.bytesWorld W 5 ⟨l.toArray⟩) := by
  have := Lib.run_convert_string_bytes (P := Tryz.prog) W 9 63 5 ⟨l.toArray⟩ Tryz.underlying9 Tryz.underlying63 Tryz.underlying5
  rw [str_size] at this
  exact this
set_option maxRecDepth 100000 in
set_option maxHeartbeats 1000000 in
theorem wtxt_any (base W : Nat) (o : Option Addr) (c : Nat) (bs : List UInt8) (l : List UInt8) (w : World) (hw : Wr base w W o c bs) (hlen : bs.length + l.length ≤ 999000) (hbase : base ≤ w.heap.size) :
    Calls Tryz.prog 46 #[.pointer (some ⟨W, 0, none⟩), str l] w fun e w' => e = .returned (.tuple #[]) ∧ ∃ o' c', Wr base w' W o' c' (bs ++ encT l) ∧ KT w w' ∧ Below base w w' := by
  have hC := natural_any l.length w (by omega)
  have hel := encN_len l.length (by omega)
  have hwr : IntKind.u64.wrap (l.length : Int) = (l.length : Int) := IntWalk.u64_in _ (by omega)
  have kc := conv_str l
  go_enter Tryz.func46, Tryz.ntmps46
  go_wp2_with (go_at_call 113; refine hC.mono ?_; rintro e w1 ⟨v, rfl, h1, h2, h3⟩; obtain ⟨g, cg, cs, rfl, hl, h4, h5, h6⟩ := own_part h1 h2)
  obtain ⟨w2, hw2⟩ : ∃ w2, Lib.bytesWorld w1 5 ⟨l.toArray⟩ = w2 := ⟨_, rfl⟩
  have hg2 : w1.grownBy w2 none := hw2 ▸ grown_bytes w1 5 _
  have hn2 : w2.heap[w1.heap.size]? = some (.cells (Lib.bytesCells w1 5 ⟨l.toArray⟩) 5 ((Lib.bytesCells w1 5 ⟨l.toArray⟩).size, (Lib.bytesCells w1 5 ⟨l.toArray⟩).size + 1)) := hw2 ▸ Lib.bytesWorld_at_new w1 5 _
  have hgl2 : w1.heap.size < w2.heap.size := (Array.getElem?_eq_some_iff.1 hn2).1
  rw [hw2]
  have hP := heap_new w2 (.cells #[.slice (some ⟨g, 0, none⟩) (encN l.length).length cg, .slice (some ⟨w1.heap.size, 0, none⟩) l.length (grownCap w1 l.length 0 5)] 63)
  have hg3 := World.grownBy_alloc w2 (.cells #[.slice (some ⟨g, 0, none⟩) (encN l.length).length cg, .slice (some ⟨w1.heap.size, 0, none⟩) l.length (grownCap w1 l.length 0 5)] 63) none
  have hglt : g < w1.heap.size := (Array.getElem?_eq_some_iff.1 h5).1
  have hg4 := (h3.trans hg2).trans hg3
  have hW := write_any base W w2.heap.size o c bs [encN l.length, l] _ (hw.grown hg4) (by simp; omega) (by simp) ⟨_, _, _, hP, by decide, by decide⟩ (Nat.le_trans hbase hg4.size) (by
    intro j hj
    have hj2 : j < 2 := by simpa using hj
    rcases (show j = 0 ∨ j = 1 by omega) with rfl | rfl
    · exact ⟨g, cg, cs, (0, 0), cell_of_heap hP, (hg3.block g (Nat.lt_trans hglt hgl2) (by simp)).trans ((hg2.block g hglt (by simp)).trans h5), .inr ⟨rfl, hw.own_low h4⟩, h6⟩
    · exact ⟨w1.heap.size, _, _, _, cell_of_heap hP, (hg3.block _ hgl2 (by simp)).trans hn2, .inl (by simp), fun k hk => bytesCells_get w1 5 l k hk⟩)
  refine hW.mono ?_
  rintro e w3 ⟨rfl, o', c', k1, k2, k3⟩
  go_wp2
  refine bodyPost_end (results_none rfl _ _ _) rfl ?_
  refine ⟨rfl, o', c', by simpa [encT] using k1, (KT.of_none hg4).trans k2, ((Below.refl base w).grown hg4 hbase (by simp)).trans k3⟩
set_option maxRecDepth 100000 in
set_option maxHeartbeats 1000000 in
theorem wbytes_any (base W : Nat) (o : Option Addr) (c : Nat) (bs : List UInt8) (w : World) (hw : Wr base w W o c bs) (hlen : bs.length ≤ 1000000) (hne : bs ≠ []) :
    Calls Tryz.prog 48 #[.pointer (some ⟨W, 0, none⟩)] w fun e w' => ∃ g c, e = .returned (.tuple #[.slice (some ⟨g, 0, none⟩) bs.length c, .int .i64 0]) ∧ (∀ j, j < bs.length → w'.cell? ⟨g, j, none⟩ = some (.int .u8 (bs[j]?.getD 0).toNat)) ∧ w.grownBy w' none := by
  obtain ⟨i0, hi, hz0, hz1, hz2⟩ := info_parts Tryz.info5
  have hml : 1000000 ≤ maxLen := by decide
  have c0 := hw.c0
  have c1 := hw.c1
  have hlt := hw.lt
  have hl0 : bs.length ≠ 0 := fun h => hne (List.eq_nil_of_length_eq_zero h)
  obtain ⟨a, c', cs, hv, -, ha, hrow, hcs⟩ := own_part hw.own (fun h => by simp only [Value.slice.injEq] at h; exact hl0 h.2.1)
  cases hv
  have halt : a < w.heap.size := (Array.getElem?_eq_some_iff.1 hrow).1
  go_enter Tryz.func48, Tryz.ntmps48
  go_wp2_with (at_builtin; refine wpList_append_own _ rfl _ _ 63 rfl w.heap.size 5 i0 (.int .u8 0) 1 1 Tryz.underlying63 hi hz0 hz1 hz2 rfl (by decide) _ _ [] rfl (World.ownsRow_made w #[] 0 (Nat.le_refl _) (by decide) rfl) ⟨a, 0, none⟩ bs.length c (cellsOfBytes bs) rfl (by simp [cellsOfBytes]) ?hnew (bytes_one bs) (by omega) (by omega) (by simp) ?_)
  case hnew =>
    intro j u hu
    obtain ⟨h1, rfl⟩ := bytes_get bs j u hu
    rw [Addr.add_lit, Nat.zero_add, cell_of_heap ((Below.heap_alloc w _ a halt).trans hrow), hcs j h1]
  intro v' w1 hown hgrow hnil
  obtain ⟨g, c2, rfl, -, hb, hlt2, hcap, cs2, fz2, hrow2, hcs2⟩ := row_of_own hown (fun h => by rw [h] at hown; have := hown.1; rcases hown.2 with ⟨_, h2⟩ | ⟨g, cap, cur, h2, _⟩; omega; cases h2)
  have hg1 : w.grownBy w1 none := (World.grownBy_alloc w _ none).andThen hgrow (by intro j hj; simp only [Value.ownBlock, Option.some.injEq] at hj; omega)
  clear hnil
  go_wp2
  go_ret2
  exact ⟨g, c2, rfl, fun j hj => by rw [cell_of_heap hrow2, hcs2 j hj], hg1⟩
end Go.Proofs.YtedfhallhpkkhaaGreatDoor.X
