/- receipt.Decode: a digest is appended to a path. -/
import Derived.Test.YtedfhallhpkkhaaGreatDoorZG
import Derived.Lib.Hide
import Derived.Great.BuildSlice
set_option linter.unusedVariables false
set_option linter.unusedSimpArgs false
namespace Go.Proofs.YtedfhallhpkkhaaGreatDoor.X
open Go Go.RowKit

/-- The body of receipt.Decode's inner loop, ahead of its counting. -/
noncomputable def dig10 : Code := match Tryz.f10.body with
  | some (Code.seq _ (Code.seq _ (Code.seq _ (Code.seq _ (Code.seq (Code.seq _ (Code.block _ (Code.loop (Code.seq _ (Code.seq _ (Code.seq (Code.block _ (Code.seq _ (Code.seq (Code.seq _ (Code.block _ (Code.loop (Code.seq _ (Code.seq _ (Code.seq (Code.block _ c) _)))))) _))) _)))))) _))))) => c
  | _ => Code.skip
/-- Its last statement. -/
noncomputable def app10 : Code := match dig10 with
  | Code.seq _ (Code.seq _ c) => c
  | _ => Code.skip
theorem Tryz.info50 : (Tryz.prog.info? 50).map (fun i => (i.zero, i.size, i.bytes)) = some (some (.agg #[.int .u8 0, .int .u8 0, .int .u8 0, .int .u8 0, .int .u8 0, .int .u8 0, .int .u8 0, .int .u8 0, .int .u8 0, .int .u8 0, .int .u8 0, .int .u8 0, .int .u8 0, .int .u8 0, .int .u8 0, .int .u8 0, .int .u8 0, .int .u8 0, .int .u8 0, .int .u8 0, .int .u8 0, .int .u8 0, .int .u8 0, .int .u8 0, .int .u8 0, .int .u8 0, .int .u8 0, .int .u8 0, .int .u8 0, .int .u8 0, .int .u8 0, .int .u8 0]), 32, 32) := by kernel_rfl
theorem cells_new (w : World) (C : Array Value) (t : TypeId) (j : Nat) (u : Value) (h : C.toList[j]? = some u) : (w.alloc (.cells C t)).cell? ((⟨w.heap.size, 0, none⟩ : Addr).add j) = some u := by
  rw [Addr.add_lit, Nat.zero_add, cell_of_heap (heap_new w _), ← Array.getElem?_toList, h]
theorem fill_one (DC : Array Value) (Z : Array Value) (h : DC.size = 32) (hZ : Z.size = 32) : Instr.fill (fun i => some (i * 32, 32)) Z [(0, .agg DC)] = some DC := by
  have := Great.fill_whole (s := 32) (by decide) [.agg DC] Z (fun v hv => by rw [List.mem_singleton.1 hv]; exact h) (by rw [hZ]; rfl)
  simpa [Value.cells] using this
theorem heap_cells4 {w : World} {b : Nat} {v0 v1 v2 v3 : Value} {t : TypeId} {fz : Nat × Nat} (h : w.heap[b]? = some (.cells #[v0, v1, v2, v3] t fz)) :
    w.cell? ⟨b, 0, none⟩ = some v0 ∧ w.cell? ⟨b, 1, none⟩ = some v1 ∧ w.cell? ⟨b, 2, none⟩ = some v2 ∧ w.cell? ⟨b, 3, none⟩ = some v3 :=
  ⟨cell_of_heap h, cell_of_heap h, cell_of_heap h, cell_of_heap h⟩
set_option maxRecDepth 100000 in
set_option maxHeartbeats 40000000 in
theorem app_wp (P D base : Nat) (W : World) (t0 t1 t2 t3 t4 t5 t6 t7 t10 t11 t12 t13 t14 t15 t16 t17 t18 t19 t20 t21 t22 t23 t24 t25 t26 t27 t28 t29 t30 t31 t32 t33 t34 t35 t36 t37 t38 t39 t40 t41 t42 t43 t44 t45 t46 t47 t48 t49 t50 t51 t52 t53 t54 t55 t56 t57 t58 t59 t60 t61 t62 t63 t64 t65 t66 t67 t68 t69 t70 t71 t72 t73 t74 t75 t76 t77 t78 : Value) (q0 q1 q2 pv : Value) (n : Nat) (xs DL : List Value) (DC : Array Value) (hDl : Hid (DC.toList = DL)) (hDs : Hid (DC.size = 32)) (hone : ∀ u ∈ DL, u.oneCell' = true)
   (hP : W.heap[P]? = some (.cells #[q0, q1, q2, pv] 61 (0, 0))) (hD : Hid (W.heap[D]? = some (.cells DC 50 (0, 0)))) (hown : W.ownsRow base 50 32 pv n xs) (hn : n ≤ 64) (hbase : base ≤ W.heap.size) (hPb : base ≤ P)
   (NN : Act → World → Prop)
   (hN : ∀ (u48 u49 u50 u51 u52 u53 v' : Value) (W1 : World), W1.ownsRow base 50 32 v' (n + 1) (xs ++ DL) → (W.alloc (.cells DC 50)).grownBy W1 pv.ownBlock → W1.heap[P]? = some (.cells #[q0, q1, q2, pv] 61 (0, 0)) → NN ⟨#[t0, t1, t2, t3, t4, t5, t6, t7, .pointer (some ⟨P, 0, none⟩), .pointer (some ⟨D, 0, none⟩), t10, t11, t12, t13, t14, t15, t16, t17, t18, t19, t20, t21, t22, t23, t24, t25, t26, t27, t28, t29, t30, t31, t32, t33, t34, t35, t36, t37, t38, t39, t40, t41, t42, t43, t44, t45, t46, t47, u48, u49, u50, u51, u52, u53, t54, t55, t56, t57, t58, t59, t60, t61, t62, t63, t64, t65, t66, t67, t68, t69, t70, t71, t72, t73, t74, t75, t76, t77, t78], []⟩ (W1.setCell ⟨P, 3, none⟩ v')) : app10.wp Tryz.prog (Exit.then NN (fun _ _ _ => False)) ⟨#[t0, t1, t2, t3, t4, t5, t6, t7, .pointer (some ⟨P, 0, none⟩), .pointer (some ⟨D, 0, none⟩), t10, t11, t12, t13, t14, t15, t16, t17, t18, t19, t20, t21, t22, t23, t24, t25, t26, t27, t28, t29, t30, t31, t32, t33, t34, t35, t36, t37, t38, t39, t40, t41, t42, t43, t44, t45, t46, t47, t48, t49, t50, t51, t52, t53, t54, t55, t56, t57, t58, t59, t60, t61, t62, t63, t64, t65, t66, t67, t68, t69, t70, t71, t72, t73, t74, t75, t76, t77, t78], []⟩ W := by
  unfold app10 dig10 Tryz.f10
  dsimp only
  obtain ⟨j0, hj, hz0, hz1, hz2⟩ := info_parts Tryz.info50
  have hml : 1000000 ≤ maxLen := by decide
  obtain ⟨p0, p1, p2, p3⟩ := heap_cells4 hP
  have g3 : W.frozen? ⟨P, 3, none⟩ = false := frozen_of_heap hP
  have hPlt : P < W.heap.size := (Array.getElem?_eq_some_iff.1 hP).1
  have hDlen : DL.length = 1 * 32 := by rw [← hDl.out]; simpa using hDs.out
  have HDlen := Lib.hid hDlen
  have hnews := cells_new W DC 50
  rw [hDl.out] at hnews
  have HNW := Lib.hid hnews
  have HP := Lib.hid hP
  clear hDlen hnews hP
  go_wp2_with (first
      | ((with_reducible refine wpList_load_row (o := ⟨some 50, _, _, _, _, _⟩) rfl 50 _ rfl D rfl 50 DC (0, 0) _ hD.out Tryz.underlying50 rfl ?_ ?_); (rw [hDs.out]; kernel_rfl))
      | ((with_reducible refine wpList_buildSlice (o := ⟨some 51, _, _, _, _, _⟩) rfl 59 50 1 _ rfl DC j0 (.agg #[.int .u8 0, .int .u8 0, .int .u8 0, .int .u8 0, .int .u8 0, .int .u8 0, .int .u8 0, .int .u8 0, .int .u8 0, .int .u8 0, .int .u8 0, .int .u8 0, .int .u8 0, .int .u8 0, .int .u8 0, .int .u8 0, .int .u8 0, .int .u8 0, .int .u8 0, .int .u8 0, .int .u8 0, .int .u8 0, .int .u8 0, .int .u8 0, .int .u8 0, .int .u8 0, .int .u8 0, .int .u8 0, .int .u8 0, .int .u8 0, .int .u8 0, .int .u8 0]) Tryz.underlying59 hj hz0 ?_ ?_ ?_ ?_); (rw [hz1]; decide); (rw [hz1]; decide); (rw [hz1]; refine Eq.trans (congrArg _ ?_) (fill_one DC _ hDs.out (by simp)); simp [Act.eval, Act.put]))
      | (at_builtin; refine wpList_append_own _ rfl _ _ 59 rfl base 50 j0 (.agg #[.int .u8 0, .int .u8 0, .int .u8 0, .int .u8 0, .int .u8 0, .int .u8 0, .int .u8 0, .int .u8 0, .int .u8 0, .int .u8 0, .int .u8 0, .int .u8 0, .int .u8 0, .int .u8 0, .int .u8 0, .int .u8 0, .int .u8 0, .int .u8 0, .int .u8 0, .int .u8 0, .int .u8 0, .int .u8 0, .int .u8 0, .int .u8 0, .int .u8 0, .int .u8 0, .int .u8 0, .int .u8 0, .int .u8 0, .int .u8 0, .int .u8 0, .int .u8 0]) 32 32 Tryz.underlying59 hj hz0 hz1 hz2 rfl (by decide) _ _ _ rfl (hown.alloc _) ⟨W.heap.size, 0, none⟩ 1 1 DL rfl HDlen.out HNW.out hone (by omega) (by omega) (by simp; omega) ?_))
  intro v' w3 hown' hgrow hnil
  obtain ⟨ov, cv, rfl⟩ := ownsRow_slice hown'
  have HG := Lib.hid hgrow
  have HO := Lib.hid hown'
  have hPo : some P ≠ pv.ownBlock := fun e => by
    obtain ⟨cs, h4⟩ := own_type hown e.symm
    have h5 := HP.out
    rw [h5] at h4
    simp at h4
  have hP3 : w3.heap[P]? = some (.cells #[q0, q1, q2, pv] 61 (0, 0)) := (hgrow.block P (by simp; omega) hPo).trans ((Below.heap_alloc _ _ _ hPlt).trans HP.out)
  have HP3 := Lib.hid hP3
  clear p0 p1 p2 p3 g3
  obtain ⟨p0, p1, p2, p3⟩ := heap_cells4 hP3
  have g3 : w3.frozen? ⟨P, 3, none⟩ = false := frozen_of_heap hP3
  clear hP3 hgrow hown' hnil
  go_wp2
  exact hN _ _ _ _ _ _  (.slice ov (n + 1) cv) w3 HO.out HG.out HP3.out
end Go.Proofs.YtedfhallhpkkhaaGreatDoor.X
