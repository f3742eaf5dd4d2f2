/- codec.Writer: write. -/
import Derived.Test.YtedfhallhpkkhaaGreatDoorZ8
import Derived.Handy
set_option linter.unusedVariables false
set_option linter.unusedSimpArgs false
namespace Go.Proofs.YtedfhallhpkkhaaGreatDoor.X
open Go Go.RowKit

/-- What is neither a writer nor a row of bytes stays. -/
def KT (w w' : World) : Prop := ∀ (b : Nat) (cs : Array Value) (t : TypeId) (fz : Nat × Nat), w.heap[b]? = some (.cells cs t fz) → t ≠ 212 → t ≠ 5 → w'.heap[b]? = some (.cells cs t fz)
theorem KT.refl (w : World) : KT w w := fun b cs t fz h _ _ => h
theorem KT.trans {a b c : World} (h : KT a b) (k : KT b c) : KT a c := fun i cs t fz h1 h2 h3 => k i cs t fz (h i cs t fz h1 h2 h3) h2 h3
theorem KT.of_grown {w w' : World} {row : Option Nat} (h : w.grownBy w' row) (hr : ∀ r, row = some r → ∃ cs t fz, w.heap[r]? = some (.cells cs t fz) ∧ (t = 212 ∨ t = 5)) : KT w w' := fun b cs t fz h1 h2 h3 =>
  (h.block b (Array.getElem?_eq_some_iff.1 h1).1 fun e => by
    obtain ⟨cs', t', fz', h4, h5⟩ := hr b e.symm
    rw [h1] at h4
    cases h4
    rcases h5 with h | h
    · exact h2 h
    · exact h3 h).trans h1
theorem KT.of_none {w w' : World} (h : w.grownBy w' none) : KT w w' := KT.of_grown h fun r e => by cases e
/-- A writer in block W with the bytes bs. -/
structure Wr (base : Nat) (w : World) (W : Nat) (o : Option Addr) (c : Nat) (bs : List UInt8) : Prop where
  low : base ≤ W
  obj : w.heap[W]? = some (.cells #[.slice o bs.length c, .int .i64 0] 212 (0, 0))
  own : w.ownsRow base 5 1 (.slice o bs.length c) bs.length (cellsOfBytes bs)
theorem Wr.c0 {base : Nat} {w : World} {W : Nat} {o : Option Addr} {c : Nat} {bs : List UInt8} (h : Wr base w W o c bs) : w.cell? ⟨W, 0, none⟩ = some (.slice o bs.length c) := cell_of_heap h.obj
theorem Wr.c1 {base : Nat} {w : World} {W : Nat} {o : Option Addr} {c : Nat} {bs : List UInt8} (h : Wr base w W o c bs) : w.cell? ⟨W, 1, none⟩ = some (.int .i64 0) := cell_of_heap h.obj
theorem Wr.fz {base : Nat} {w : World} {W : Nat} {o : Option Addr} {c : Nat} {bs : List UInt8} (h : Wr base w W o c bs) (j : Nat) : w.frozen? ⟨W, j, none⟩ = false := frozen_of_heap h.obj
theorem ownsRow_slice {w : World} {base : Nat} {e : TypeId} {size : Nat} {v : Value} {n : Nat} {xs : List Value} (h : w.ownsRow base e size v n xs) : ∃ o c, v = .slice o n c := by
  rcases h.2 with ⟨rfl, rfl⟩ | ⟨g, cap, cur, rfl, _⟩
  · exact ⟨none, 0, rfl⟩
  · exact ⟨_, cap, rfl⟩
theorem own_type {w : World} {base : Nat} {e : TypeId} {size : Nat} {v : Value} {n : Nat} {xs : List Value} (h : w.ownsRow base e size v n xs) {j : Nat} (hj : v.ownBlock = some j) : ∃ cs, w.heap[j]? = some (.cells cs e (0, 0)) := by
  rcases h.2 with ⟨rfl, rfl⟩ | ⟨g, cap, cur, rfl, h1, h2, _⟩
  · cases hj
  · simp only [Value.ownBlock, Option.some.injEq] at hj
    subst hj
    exact ⟨_, h2⟩
theorem heap_setA {w : World} {b : Nat} {x y v : Value} {t : TypeId} (h : w.heap[b]? = some (.cells #[x, y] t (0, 0))) : (w.setCell ⟨b, 0, none⟩ v).heap[b]? = some (.cells #[v, y] t (0, 0)) := by
  unfold World.setCell
  simp only [Array.getElem?_modify, if_true, h]
  rfl
theorem heap_setB {w : World} {b : Nat} {x y v : Value} {t : TypeId} (h : w.heap[b]? = some (.cells #[x, y] t (0, 0))) : (w.setCell ⟨b, 1, none⟩ v).heap[b]? = some (.cells #[x, v] t (0, 0)) := by
  unfold World.setCell
  simp only [Array.getElem?_modify, if_true, h]
  rfl
theorem Wr.ne {base : Nat} {w : World} {W : Nat} {o : Option Addr} {c : Nat} {bs : List UInt8} (h : Wr base w W o c bs) : (Value.slice o bs.length c).ownBlock ≠ some W := fun e => by
  obtain ⟨cs, h1⟩ := own_type h.own e
  rw [h.obj] at h1
  simp at h1
/-- Part j of what is written: its block, its capacity, its bytes; the first one's row is not the writer's own, the others' bear a mark. -/
def Part (w : World) (P j : Nat) (p : List UInt8) (own : Option Nat) : Prop :=
  ∃ g c cs fz, w.cell? ⟨P, j, none⟩ = some (.slice (some ⟨g, 0, none⟩) p.length c) ∧ w.heap[g]? = some (.cells cs 5 fz) ∧ (fz ≠ (0, 0) ∨ (j = 0 ∧ some g ≠ own)) ∧ ∀ (k : Nat), k < p.length → cs[k]? = some (.int .u8 (p[k]?.getD 0).toNat)
/-- Rows of bytes that bear a mark stay. -/
def FT (w w' : World) : Prop := ∀ (b : Nat) (cs : Array Value) (fz : Nat × Nat), w.heap[b]? = some (.cells cs 5 fz) → fz ≠ (0, 0) → w'.heap[b]? = some (.cells cs 5 fz)
theorem FT.trans {a b c : World} (h : FT a b) (k : FT b c) : FT a c := fun i cs fz h1 h2 => k i cs fz (h i cs fz h1 h2) h2
theorem FT.of_grown {w w' : World} {row : Option Nat} (h : w.grownBy w' row) (hr : ∀ r, row = some r → ∃ cs t, w.heap[r]? = some (.cells cs t (0, 0))) : FT w w' := fun b cs fz h1 h2 =>
  (h.block b (Array.getElem?_eq_some_iff.1 h1).1 fun e => by
    obtain ⟨cs', t', h4⟩ := hr b e.symm
    rw [h1] at h4
    cases h4
    exact h2 rfl).trans h1

set_option maxRecDepth 100000 in
set_option maxHeartbeats 1000000 in
theorem write_any (base W P : Nat) (o : Option Addr) (c : Nat) (bs : List UInt8) (ps : List (List UInt8)) (w : World) (hw : Wr base w W o c bs) (hlen : bs.length + ps.flatten.length ≤ 1000000) (hk : ps.length ≤ 1000)
    (hP : ∃ cs t fz, w.heap[P]? = some (.cells cs t fz) ∧ t ≠ 212 ∧ t ≠ 5) (hbase : base ≤ w.heap.size)
    (hp : ∀ j (hj : j < ps.length), Part w P j ps[j] (Value.slice o bs.length c).ownBlock) :
    Calls Tryz.prog 112 #[.pointer (some ⟨W, 0, none⟩), .int .i64 0, .slice (some ⟨P, 0, none⟩) ps.length ps.length] w fun e w' => e = .returned (.tuple #[]) ∧ ∃ o' c', Wr base w' W o' c' (bs ++ ps.flatten) ∧ KT w w' ∧ Below base w w' := by
  obtain ⟨i0, hi, hz0, hz1, hz2⟩ := info_parts Tryz.info5
  have hml : 1000000 ≤ maxLen := by decide
  have c1 := hw.c1
  have f1 := hw.fz 1
  go_enter Tryz.func112, Tryz.ntmps112
  go_wp2_with fail
  have hsl : ∀ {b : Nat}, w.heap[b]? = none → w.heap.size ≤ b := fun {b} h => by
    rcases Nat.lt_or_ge b w.heap.size with h' | h'
    · rw [Array.getElem?_eq_getElem h'] at h; cases h
    · exact h'
  have g0 : w.grownBy (w.setCell ⟨W, 1, none⟩ (.int .i64 0)) (some W) := grown_set w W 1 _
  have hWlt : W < w.heap.size := (Array.getElem?_eq_some_iff.1 hw.obj).1
  go_loopw [25] (fun q wr => ∃ (i : Nat) (o' : Option Addr) (c' : Nat), q = .int .i64 i ∧ i ≤ ps.length ∧ Wr base wr W o' c' (bs ++ (ps.take i).flatten) ∧ KT w wr ∧ Below base w wr ∧ FT w wr ∧ (i = 0 → wr = w.setCell ⟨W, 1, none⟩ (.int .i64 0) ∧ o' = o ∧ c' = c) ∧ w.heap.size ≤ wr.heap.size)
    (fun q _ => ps.length + 1 - (RowKit.intOf q).toNat)
  case atStart =>
    refine ⟨0, o, c, rfl, Nat.zero_le _, ?_, KT.of_grown g0 (fun r e => ?_), (Below.refl base w).setCell (p := ⟨W, 1, none⟩) hw.low _, FT.of_grown g0 (fun r e => ?_), fun _ => ⟨rfl, rfl, rfl⟩, g0.size⟩
    · simp only [List.take_zero, List.flatten_nil, List.append_nil]
      exact ⟨hw.low, heap_setB hw.obj, hw.own.kept g0 (.inr hw.ne)⟩
    · cases e
      exact ⟨_, _, _, hw.obj, .inl rfl⟩
    · cases e
      exact ⟨_, _, hw.obj⟩
  case round =>
    obtain ⟨i, o', c', rfl, hi', hwr, hkt, hbel, hft, hz, hsz⟩ := hrel
    by_cases hlt : i < ps.length
    · obtain ⟨g, cg, cs, fz, hcell, hrow, hne, hbytes⟩ := hp i hlt
      obtain ⟨p, hpp⟩ : ∃ p, ps[i] = p := ⟨_, rfl⟩
      rw [hpp] at hcell hbytes
      have hfl : (ps.take (i + 1)).flatten = (ps.take i).flatten ++ p := by
        rw [List.take_succ_eq_append_getElem hlt, List.flatten_append, hpp]; simp
      have hle : ((ps.take i).flatten ++ p).length ≤ ps.flatten.length := by
        rw [← hfl]
        have : (ps.take (i + 1)).flatten.length + (ps.drop (i + 1)).flatten.length = ps.flatten.length := by
          rw [← List.length_append, ← List.flatten_append, List.take_append_drop]
        omega
      rw [List.length_append] at hle
      have hglt : g < w.heap.size := (Array.getElem?_eq_some_iff.1 hrow).1
      have hgW : g ≠ W := fun e => by rw [e, hw.obj] at hrow; simp at hrow
      have hrow' : wr.heap[g]? = some (.cells cs 5 fz) := by
        rcases hne with h | ⟨h, _⟩
        · exact hft _ _ _ hrow h
        · rw [(hz h).1]
          exact (Below.heap_setCell _ _ _ _ hgW).trans hrow
      have hcell' : wr.cell? ⟨P, i, none⟩ = some (.slice (some ⟨g, 0, none⟩) p.length cg) := by
        obtain ⟨csP, tP, fzP, hP1, hP2, hP3⟩ := hP
        rw [cell_of_heap (hkt _ _ _ _ hP1 hP2 hP3), ← cell_of_heap hP1 (j := i), hcell]
      have hgo : some g ≠ (Value.slice o' (bs ++ (ps.take i).flatten).length c').ownBlock := fun e => by
        rcases hne with h | ⟨h, h'⟩
        · obtain ⟨cs', h4⟩ := own_type hwr.own e.symm
          rw [hrow'] at h4
          cases h4
          exact h rfl
        · refine h' ?_
          obtain ⟨_, rfl, rfl⟩ := hz h
          rw [e]
          cases o' <;> rfl
      have hnews : ∀ j u, (cellsOfBytes p)[j]? = some u → wr.cell? ((⟨g, 0, none⟩ : Addr).add j) = some u := fun j u hu => by
        obtain ⟨h1, rfl⟩ := bytes_get p j u hu
        rw [Addr.add_lit, Nat.zero_add, cell_of_heap hrow', hbytes j h1]
      have d0 := hwr.c0
      have hlt' : (i : Int) < ps.length := by omega
      have hle2 : bs.length + (ps.take i).flatten.length + p.length ≤ 1000000 := by omega
      have hi3 : (i : Int) ≤ 1000 := by omega
      have hWne := hwr.ne
      have hLen : (bs ++ (ps.take i).flatten).length = bs.length + (ps.take i).flatten.length := List.length_append
      obtain ⟨L, hL⟩ : ∃ L, (bs ++ (ps.take i).flatten).length = L := ⟨_, rfl⟩
      have hwo := hwr.own
      have hobj := hwr.obj
      rw [hL] at hLen hWne hwo hobj d0 hgo
      have hLle : L + p.length ≤ 1000000 := by omega
      have hLH : Hid ((bs ++ (ps.take i).flatten).length = L) := hL
      have hflH : Hid ((ps.take (i + 1)).flatten = (ps.take i).flatten ++ p) := hfl
      clear hL hLen hle hle2 hfl
      clear hp hbytes hz hcell hpp
      go_wp2_with (at_builtin; refine wpList_append_own _ rfl _ _ 63 rfl base 5 i0 (.int .u8 0) 1 1 Tryz.underlying63 hi hz0 hz1 hz2 rfl (by decide) _ _ _ rfl hwo ⟨g, 0, none⟩ p.length cg (cellsOfBytes p) rfl (by simp [cellsOfBytes]) hnews (bytes_one _) (by omega) (by omega) (by omega) ?_)
      intro v' w1 hown1 hgrow hnil
      obtain ⟨o2, c2, rfl⟩ := ownsRow_slice hown1
      have hnilH : Hid (Value.slice o2 (L + p.length) c2 = Value.slice none 0 0 ↔ _) := hnil
      clear hnil
      have hW1 : w1.heap[W]? = some (.cells #[.slice o' L c', .int .i64 0] 212 (0, 0)) := (hgrow.block W (Array.getElem?_eq_some_iff.1 hobj).1 hWne.symm).trans hobj
      have e0 : w1.cell? ⟨W, 0, none⟩ = some (.slice o' L c') := cell_of_heap hW1
      have e1 : w1.frozen? ⟨W, 0, none⟩ = false := frozen_of_heap hW1
      have hgH : Hid (wr.grownBy w1 (Value.slice o' L c').ownBlock) := hgrow
      have hownH1 : Hid (w1.ownsRow base 5 1 (Value.slice o2 (L + p.length) c2) (L + p.length) (cellsOfBytes (bs ++ (ps.take i).flatten) ++ cellsOfBytes p)) := hown1
      have hWH : Hid (w1.heap[W]? = some (.cells #[.slice o' L c', .int .i64 0] 212 (0, 0))) := hW1
      have hobjH : Hid (wr.heap[W]? = some (.cells #[.slice o' L c', .int .i64 0] 212 (0, 0))) := hobj
      clear hgrow hown1 hW1 hobj
      go_wp2
      replace hgH := hgH.out
      replace hownH1 := hownH1.out
      replace hWH := hWH.out
      replace hobjH := hobjH.out
      replace hflH := hflH.out
      replace hLH := hLH.out
      have hW2 : (w1.setCell ⟨W, 0, none⟩ (.slice o2 (L + p.length) c2)).heap[W]? = some (.cells #[.slice o2 (L + p.length) c2, .int .i64 0] 212 (0, 0)) := heap_setA hWH
      have g2 := grown_set w1 W 0 (.slice o2 (L + p.length) c2)
      have hne2 : (Value.slice o2 (L + p.length) c2).ownBlock ≠ some W := fun e => by
        obtain ⟨cs, h1⟩ := own_type hownH1 e
        rw [hWH] at h1
        simp at h1
      have eL : (bs ++ (ps.take (i + 1)).flatten).length = L + p.length := by rw [hflH, ← List.append_assoc, List.length_append, hLH]
      have hlow : ∀ j, (Value.slice o' L c').ownBlock = some j → base ≤ j := fun j hj => own_lt hwo hj
      go_round
      case rel =>
        refine ⟨i + 1, o2, c2, by push_cast; rfl, by omega, ⟨hwr.low, by rw [eL]; exact hW2, ?_⟩, ?_, ?_, ?_, ?_, ?_⟩
        · rw [eL, hflH, ← List.append_assoc, cellsOfBytes_append]
          exact hownH1.kept g2 (.inr hne2)
        · refine hkt.trans ((KT.of_grown hgH fun r e => ?_).trans (KT.of_grown g2 fun r e => ?_))
          · obtain ⟨cs, h1⟩ := own_type hwo e
            exact ⟨_, _, _, h1, .inr rfl⟩
          · cases e
            exact ⟨_, _, _, hWH, .inl rfl⟩
        · exact (hbel.grown hgH (Nat.le_trans hbase hsz) fun k e => hlow k e).setCell (p := ⟨W, 0, none⟩) hwr.low _
        · refine hft.trans ((FT.of_grown hgH fun r e => ?_).trans (FT.of_grown g2 fun r e => ?_))
          · obtain ⟨cs, h1⟩ := own_type hwo e
            exact ⟨_, _, h1⟩
          · cases e
            exact ⟨_, _, hWH⟩
        · omega
        · exact Nat.le_trans hsz (Nat.le_trans hgH.size g2.size)
      case measure => simp [RowKit.intOf]; omega
    · have hie : i = ps.length := by omega
      subst hie
      rw [List.take_length] at hwr
      clear hp hz
      go_wp2
      refine bodyPost_end (results_none rfl _ _ _) rfl ?_
      exact ⟨rfl, o', c', hwr, hkt, hbel⟩
end Go.Proofs.YtedfhallhpkkhaaGreatDoor.X
