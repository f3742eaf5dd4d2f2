/- codec.Reader: Number, by the reader's state. -/
import Derived.Test.YtedfhallhpkkhaaGreatDoorZ2
import Derived.Shelf.Abstract
set_option linter.unusedVariables false
set_option linter.unusedSimpArgs false
namespace Go.Proofs.YtedfhallhpkkhaaGreatDoor.X
open Go Go.RowKit

theorem cell_of_heap {w : World} {b j : Nat} {cs : Array Value} {t : TypeId} {fz : Nat × Nat} (h : w.heap[b]? = some (.cells cs t fz)) : w.cell? ⟨b, j, none⟩ = cs[j]? := by
  unfold World.cell?
  simp only [h]
  rfl
theorem frozen_of_heap {w : World} {b j : Nat} {cs : Array Value} {t : TypeId} (h : w.heap[b]? = some (.cells cs t (0, 0))) : w.frozen? ⟨b, j, none⟩ = false := by
  simp [World.frozen?, h]
theorem Rd.c0 {w : World} {R B cap : Nat} {bs : List UInt8} {i : Nat} {f : Int} (h : Rd w R B cap bs i f) : w.cell? ⟨R, 0, none⟩ = some (.slice (some ⟨B, 0, none⟩) bs.length cap) := cell_of_heap h.obj
theorem Rd.c1 {w : World} {R B cap : Nat} {bs : List UInt8} {i : Nat} {f : Int} (h : Rd w R B cap bs i f) : w.cell? ⟨R, 1, none⟩ = some (.int .i64 i) := cell_of_heap h.obj
theorem Rd.c2 {w : World} {R B cap : Nat} {bs : List UInt8} {i : Nat} {f : Int} (h : Rd w R B cap bs i f) : w.cell? ⟨R, 2, none⟩ = some (.int .i64 f) := cell_of_heap h.obj
theorem Rd.fz {w : World} {R B cap : Nat} {bs : List UInt8} {i : Nat} {f : Int} (h : Rd w R B cap bs i f) (j : Nat) : w.frozen? ⟨R, j, none⟩ = false := frozen_of_heap h.obj
theorem Rd.byte {w : World} {R B cap : Nat} {bs : List UInt8} {i : Nat} {f : Int} (h : Rd w R B cap bs i f) (j : Nat) (hj : j < bs.length) : w.cell? ⟨B, j, none⟩ = some (.int .u8 (bs[j]?.getD 0).toNat) := by
  obtain ⟨cs, fz, h1, h2⟩ := h.row
  rw [cell_of_heap h1]
  exact h2 j hj
theorem Rd.ne {w : World} {R B cap : Nat} {bs : List UInt8} {i : Nat} {f : Int} (h : Rd w R B cap bs i f) : B ≠ R := fun e => by
  obtain ⟨cs, fz, h1, _⟩ := h.row
  rw [e, h.obj] at h1
  cases h1
/-- It stands wherever its two blocks stand. -/
theorem Rd.kept {w w' : World} {R B cap : Nat} {bs : List UInt8} {i : Nat} {f : Int} (h : Rd w R B cap bs i f) (h1 : w'.heap[R]? = w.heap[R]?) (h2 : w'.heap[B]? = w.heap[B]?) : Rd w' R B cap bs i f := by
  obtain ⟨cs, fz, h3, h4⟩ := h.row
  exact ⟨h1.trans h.obj, ⟨cs, fz, h2.trans h3, h4⟩, h.le, h.cap, h.short⟩
theorem heap_set1 {w : World} {b : Nat} {x y z v : Value} {t : TypeId} (h : w.heap[b]? = some (.cells #[x, y, z] t (0, 0))) : (w.setCell ⟨b, 1, none⟩ v).heap[b]? = some (.cells #[x, v, z] t (0, 0)) := by
  unfold World.setCell
  simp only [Array.getElem?_modify, if_true, h]
  rfl
theorem heap_set2 {w : World} {b : Nat} {x y z v : Value} {t : TypeId} (h : w.heap[b]? = some (.cells #[x, y, z] t (0, 0))) : (w.setCell ⟨b, 2, none⟩ v).heap[b]? = some (.cells #[x, y, v] t (0, 0)) := by
  unfold World.setCell
  simp only [Array.getElem?_modify, if_true, h]
  rfl
theorem Rd.at {w : World} {R B cap : Nat} {bs : List UInt8} {i i' : Nat} {f : Int} (h : Rd w R B cap bs i f) (hi : i' ≤ bs.length) : Rd (w.setCell ⟨R, 1, none⟩ (.int .i64 i')) R B cap bs i' f := by
  obtain ⟨cs, fz, h3, h4⟩ := h.row
  exact ⟨heap_set1 h.obj, ⟨cs, fz, (Below.heap_setCell w ⟨R, 1, none⟩ _ B h.ne).trans h3, h4⟩, hi, h.cap, h.short⟩
theorem Rd.fail {w : World} {R B cap : Nat} {bs : List UInt8} {i : Nat} {f f' : Int} (h : Rd w R B cap bs i f) : Rd (w.setCell ⟨R, 2, none⟩ (.int .i64 f')) R B cap bs i f' := by
  obtain ⟨cs, fz, h3, h4⟩ := h.row
  exact ⟨heap_set2 h.obj, ⟨cs, fz, (Below.heap_setCell w ⟨R, 2, none⟩ _ B h.ne).trans h3, h4⟩, h.le, h.cap, h.short⟩
theorem grown_set (w : World) (b j : Nat) (v : Value) : w.grownBy (w.setCell ⟨b, j, none⟩ v) (some b) :=
  ⟨rfl, rfl, rfl, by simp [World.setCell], fun k _ hk => Below.heap_setCell _ _ _ k (fun e => hk (by rw [e]))⟩
theorem grpF_size (bs : List UInt8) : ∀ (i acc : Nat), (grpF bs i acc).2.1 ≤ i + bs.length := by
  induction bs with
  | nil => intro i acc; simp [grpF]
  | cons b r ih =>
    intro i acc
    rw [grpF]
    split
    · simp
    · split
      · split
        · simp
        · simp only [List.length_cons]; omega
      · have := ih (i + 1) (acc + b.toNat % 128 * 2 ^ (7 * i))
        simp only [List.length_cons]
        omega
theorem numF_size (bs : List UInt8) (most : Int) : (numF bs most).2.1 ≤ bs.length := by
  unfold numF
  split
  · simp
  · have := grpF_size bs 0 0
    omega

theorem grown_drew {w w' : World} {row : Option Nat} (g : w.drew.grownBy w' row) : w.grownBy w' row := ⟨g.os, g.tape, g.output, g.size, g.block⟩
set_option maxRecDepth 100000 in
set_option maxHeartbeats 4000000 in
theorem readI_any (R B cap M i : Nat) (f most : Int) (bs : List UInt8) (w : World) (h : Rd w R B cap bs i f) (hm : w.cell? ⟨M, 0, none⟩ = some (.int .i64 most)) :
    Calls Tryz.prog 99 #[.pointer (some ⟨R, 0, none⟩), .func (.func 100) #[] #[.pointer (some ⟨M, 0, none⟩)]] w fun e w' => e = .returned (.int .i64 (rdNum bs i f most).1) ∧ Rd w' R B cap bs (rdNum bs i f most).2.1 (rdNum bs i f most).2.2 ∧ w.grownBy w' (some R) := by
  have c0 := h.c0
  have c1 := h.c1
  have c2 := h.c2
  have f1 := h.fz 1
  have f2 := h.fz 2
  have hle := h.le
  have hcap := h.cap
  have hshort := h.short
  by_cases hf : f = 0
  · have hm' : ∀ W : World, W.heap = w.heap → W.cell? ⟨M, 0, none⟩ = some (.int .i64 most) := fun W hh => by unfold World.cell? at hm ⊢; rw [hh]; exact hm
    have hsz := numF_size (bs.drop i) most
    have hb : ∀ W : World, W.heap = w.heap → ∀ j, j < (bs.drop i).length → W.cell? ⟨B, i + j, none⟩ = some (.int .u8 ((bs.drop i)[j]?.getD 0).toNat) := fun W hh j hj => by
      have hj' : i + j < bs.length := by simp at hj; omega
      have := h.byte (i + j) hj'
      rw [List.getElem?_drop]
      unfold World.cell? at this ⊢
      rw [hh]
      exact this
    unfold rdNum
    rw [if_pos hf]
    subst hf
    by_cases hci : cap = i
    · subst hci
      have hC := fun (W : World) (hh : W.heap = w.heap) => num1_any B 0 0 M (bs.drop cap) most W (by simp; omega) (fun j hj => by simp at hj; omega) (hm' W hh)
      clear hm' hb
      generalize numF (bs.drop cap) most = g at hC hsz ⊢
      obtain ⟨u, n, x⟩ := g
      simp only [List.length_drop, show bs.length - cap = 0 by omega] at hC hsz
      by_cases hx : x = 0
      · subst hx
        have hin : (cap : Int) + n ≤ 1000000 := by omega
        simp only [if_true]
        go_enter Tryz.func99, Tryz.ntmps99
        go_wp2
        go_region_with (go_at_call 100; refine (hC w.drew rfl).mono ?_; rintro e w' ⟨rfl, rfl⟩)
        all_goals go_wp2
        all_goals go_ret
        all_goals exact ⟨rfl, Rd.at (i' := cap + n) (Rd.kept (w' := w.drew) h rfl rfl) (by omega), grown_drew (grown_set w.drew R 1 _)⟩
      · have hx' : (x != 0) = true := by simpa using hx
        simp only [if_neg hx]
        go_enter Tryz.func99, Tryz.ntmps99
        go_wp2
        go_region_with (go_at_call 100; refine (hC w.drew rfl).mono ?_; rintro e w' ⟨rfl, rfl⟩)
        all_goals go_wp2
        all_goals go_ret
        all_goals exact ⟨rfl, Rd.fail (Rd.kept (w' := w.drew) h rfl rfl), grown_drew (grown_set w.drew R 2 _)⟩
    · have hC := fun (W : World) (hh : W.heap = w.heap) => num1_any B i (cap - i) M (bs.drop i) most W (by simp; omega) (hb W hh) (hm' W hh)
      clear hm' hb
      generalize numF (bs.drop i) most = g at hC hsz ⊢
      obtain ⟨u, n, x⟩ := g
      simp only [List.length_drop] at hC hsz
      by_cases hx : x = 0
      · subst hx
        have hin : (i : Int) + n ≤ 1000000 := by omega
        simp only [if_true]
        go_enter Tryz.func99, Tryz.ntmps99
        go_wp2
        go_region_with (go_at_call 100; refine (hC w.drew rfl).mono ?_; rintro e w' ⟨rfl, rfl⟩)
        all_goals go_wp2
        all_goals go_ret
        all_goals exact ⟨rfl, Rd.at (i' := i + n) (Rd.kept (w' := w.drew) h rfl rfl) (by omega), grown_drew (grown_set w.drew R 1 _)⟩
      · have hx' : (x != 0) = true := by simpa using hx
        simp only [if_neg hx]
        go_enter Tryz.func99, Tryz.ntmps99
        go_wp2
        go_region_with (go_at_call 100; refine (hC w.drew rfl).mono ?_; rintro e w' ⟨rfl, rfl⟩)
        all_goals go_wp2
        all_goals go_ret
        all_goals exact ⟨rfl, Rd.fail (Rd.kept (w' := w.drew) h rfl rfl), grown_drew (grown_set w.drew R 2 _)⟩
  · have hf' : (f != 0) = true := by simpa using hf
    have hr : rdNum bs i f most = (0, i, f) := by unfold rdNum; rw [if_neg hf]
    rw [hr]
    go_enter Tryz.func99, Tryz.ntmps99
    go_wp2
    go_ret
    exact ⟨rfl, h, World.grownBy.refl _ _⟩
end Go.Proofs.YtedfhallhpkkhaaGreatDoor.X
