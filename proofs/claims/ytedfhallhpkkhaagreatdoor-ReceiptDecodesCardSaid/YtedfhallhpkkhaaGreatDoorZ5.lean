/- codec.Reader: Text, by the reader's state. -/
import Derived.Test.YtedfhallhpkkhaaGreatDoorZ4
set_option linter.unusedVariables false
set_option linter.unusedSimpArgs false
namespace Go.Proofs.YtedfhallhpkkhaaGreatDoor.X
open Go Go.RowKit

theorem txtF_size (bs : List UInt8) (most : Int) : (txtF bs most).2.1 ≤ bs.length := by
  unfold txtF
  have := grpF_size bs 0 0
  split
  · split
    · simp
    · split
      · simp
      · simp only
        omega
  · simp
set_option maxRecDepth 100000 in
set_option maxHeartbeats 4000000 in
theorem readS_any (R B cap M i : Nat) (f most : Int) (bs : List UInt8) (w : World) (h : Rd w R B cap bs i f) (hmost : ¬ (16777216 < most)) (hm : w.cell? ⟨M, 0, none⟩ = some (.int .i64 most)) :
    Calls Tryz.prog 96 #[.pointer (some ⟨R, 0, none⟩), .func (.func 97) #[] #[.pointer (some ⟨M, 0, none⟩)]] w fun e w' => e = .returned (str (rdTxt bs i f most).1) ∧ Rd w' R B cap bs (rdTxt bs i f most).2.1 (rdTxt bs i f most).2.2 ∧ w.grownBy w' (some R) := by
  have c0 := h.c0
  have c1 := h.c1
  have c2 := h.c2
  have f1 := h.fz 1
  have f2 := h.fz 2
  have hle := h.le
  have hcap := h.cap
  have hshort := h.short
  by_cases hf : f = 0
  · have hm' : ∀ W : World, W.heap = w.heap → W.cell? ⟨M, 0, none⟩ = some (.int .i64 most) := fun W hh => by unfold World.cell? at hm ⊢; rw [hh]; exact hm
    have hsz := txtF_size (bs.drop i) most
    have hb : ∀ W : World, W.heap = w.heap → ∀ j, j < (bs.drop i).length → W.cell? ⟨B, i + j, none⟩ = some (.int .u8 ((bs.drop i)[j]?.getD 0).toNat) := fun W hh j hj => by
      have hj' : i + j < bs.length := by simp at hj; omega
      have := h.byte (i + j) hj'
      rw [List.getElem?_drop]
      unfold World.cell? at this ⊢
      rw [hh]
      exact this
    unfold rdTxt
    rw [if_pos hf]
    subst hf
    by_cases hci : cap = i
    · subst hci
      have hC := fun (W : World) (hh : W.heap = w.heap) => text1_any B 0 0 M (bs.drop cap) most W (by simp; omega) (by simp; omega) hmost (fun j hj => by simp at hj; omega) (hm' W hh)
      clear hm' hb
      generalize txtF (bs.drop cap) most = g at hC hsz ⊢
      obtain ⟨u, n, x⟩ := g
      simp only [List.length_drop, show bs.length - cap = 0 by omega] at hC hsz
      by_cases hx : x = 0
      · subst hx
        have hin : (cap : Int) + n ≤ 1000000 := by omega
        simp only [if_true]
        go_enter Tryz.func96, Tryz.ntmps96
        go_wp2
        go_region_with (go_at_call 97; refine (hC w.drew rfl).mono ?_; rintro e w' ⟨rfl, rfl⟩)
        all_goals go_wp2
        all_goals go_ret
        all_goals exact ⟨rfl, Rd.at (i' := cap + n) (Rd.kept (w' := w.drew) h rfl rfl) (by omega), grown_drew (grown_set w.drew R 1 _)⟩
      · have hx' : (x != 0) = true := by simpa using hx
        simp only [if_neg hx]
        go_enter Tryz.func96, Tryz.ntmps96
        go_wp2
        go_region_with (go_at_call 97; refine (hC w.drew rfl).mono ?_; rintro e w' ⟨rfl, rfl⟩)
        all_goals go_wp2
        all_goals go_ret
        all_goals exact ⟨rfl, Rd.fail (Rd.kept (w' := w.drew) h rfl rfl), grown_drew (grown_set w.drew R 2 _)⟩
    · have hC := fun (W : World) (hh : W.heap = w.heap) => text1_any B i (cap - i) M (bs.drop i) most W (by simp; omega) (by simp; omega) hmost (hb W hh) (hm' W hh)
      clear hm' hb
      generalize txtF (bs.drop i) most = g at hC hsz ⊢
      obtain ⟨u, n, x⟩ := g
      simp only [List.length_drop] at hC hsz
      by_cases hx : x = 0
      · subst hx
        have hin : (i : Int) + n ≤ 1000000 := by omega
        simp only [if_true]
        go_enter Tryz.func96, Tryz.ntmps96
        go_wp2
        go_region_with (go_at_call 97; refine (hC w.drew rfl).mono ?_; rintro e w' ⟨rfl, rfl⟩)
        all_goals go_wp2
        all_goals go_ret
        all_goals exact ⟨rfl, Rd.at (i' := i + n) (Rd.kept (w' := w.drew) h rfl rfl) (by omega), grown_drew (grown_set w.drew R 1 _)⟩
      · have hx' : (x != 0) = true := by simpa using hx
        simp only [if_neg hx]
        go_enter Tryz.func96, Tryz.ntmps96
        go_wp2
        go_region_with (go_at_call 97; refine (hC w.drew rfl).mono ?_; rintro e w' ⟨rfl, rfl⟩)
        all_goals go_wp2
        all_goals go_ret
        all_goals exact ⟨rfl, Rd.fail (Rd.kept (w' := w.drew) h rfl rfl), grown_drew (grown_set w.drew R 2 _)⟩
  · have hf' : (f != 0) = true := by simpa using hf
    have hr : rdTxt bs i f most = ([], i, f) := by unfold rdTxt; rw [if_neg hf]
    rw [hr]
    go_enter Tryz.func96, Tryz.ntmps96
    go_wp2
    go_ret
    exact ⟨rfl, h, World.grownBy.refl _ _⟩
end Go.Proofs.YtedfhallhpkkhaaGreatDoor.X
