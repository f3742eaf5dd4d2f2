/- receipt.Decode: a proof is appended to the receipt. -/
import Derived.Test.YtedfhallhpkkhaaGreatDoorZK
set_option linter.unusedVariables false
set_option linter.unusedSimpArgs false
namespace Go.Proofs.YtedfhallhpkkhaaGreatDoor.X
open Go Go.RowKit

theorem Tryz.info61 : (Tryz.prog.info? 61).map (fun i => (i.zero, i.size, i.bytes)) = some (some (.agg #[.int .i64 0, .int .i64 0, .string ⟨#[]⟩, .slice none 0 0]), 4, 56) := by kernel_rfl
set_option maxRecDepth 100000 in
set_option maxHeartbeats 40000000 in
theorem act_wp (P M base : Nat) (W : World) (t0 t1 t2 t3 t4 t5 t6 t9 t10 t11 t12 t13 t14 t15 t16 t17 t18 t19 t20 t21 t22 t23 t24 t25 t26 t27 t28 t29 t30 t31 t32 t33 t34 t35 t36 t37 t38 t39 t40 t41 t42 t43 t44 t45 t46 t47 t48 t49 t50 t51 t52 t53 t54 t55 t56 t57 t58 t59 t60 t61 t62 t63 t64 t65 t66 t67 t68 t69 t70 t71 t72 t73 t74 t75 t76 t77 t78 : Value) (c0 c1 c2 c3 c4 c5 c6 v : Value) (idx len k : Nat) (txt : List UInt8) (o : Option Addr) (cp : Nat) (xs : List Value) (n : Nat)
   (hM : W.heap[M]? = some (.cells #[c0, c1, c2, c3, c4, c5, c6, v] 29 (0, 0))) (hP : W.heap[P]? = some (.cells #[.int .i64 idx, .int .i64 len, str txt, .slice o k cp] 61 (0, 0))) (hown : W.ownsRow base 61 4 v n xs) (hn : n ≤ 4096) (hbase : base ≤ W.heap.size) (hPv : ∀ j, v.ownBlock = some j → j ≠ P)
   (NN : Act → World → Prop)
   (hN : ∀ (u55 u56 u57 u58 u59 u60 v' : Value) (W1 : World), W1.ownsRow base 61 4 v' (n + 1) (xs ++ [.int .i64 idx, .int .i64 len, str txt, .slice o k cp]) → (W.alloc (.cells #[.int .i64 idx, .int .i64 len, str txt, .slice o k cp] 61)).grownBy W1 v.ownBlock → W1.heap[M]? = some (.cells #[c0, c1, c2, c3, c4, c5, c6, v] 29 (0, 0)) → NN ⟨#[t0, t1, t2, t3, t4, t5, t6, .pointer (some ⟨M, 0, none⟩), .pointer (some ⟨P, 0, none⟩), t9, t10, t11, t12, t13, t14, t15, t16, t17, t18, t19, t20, t21, t22, t23, t24, t25, t26, t27, t28, t29, t30, t31, t32, t33, t34, t35, t36, t37, t38, t39, t40, t41, t42, t43, t44, t45, t46, t47, t48, t49, t50, t51, t52, t53, t54, u55, u56, u57, u58, u59, u60, t61, t62, t63, t64, t65, t66, t67, t68, t69, t70, t71, t72, t73, t74, t75, t76, t77, t78], []⟩ (W1.setCell ⟨M, 7, none⟩ v')) : act10.wp Tryz.prog (Exit.then NN (fun _ _ _ => False)) ⟨#[t0, t1, t2, t3, t4, t5, t6, .pointer (some ⟨M, 0, none⟩), .pointer (some ⟨P, 0, none⟩), t9, t10, t11, t12, t13, t14, t15, t16, t17, t18, t19, t20, t21, t22, t23, t24, t25, t26, t27, t28, t29, t30, t31, t32, t33, t34, t35, t36, t37, t38, t39, t40, t41, t42, t43, t44, t45, t46, t47, t48, t49, t50, t51, t52, t53, t54, t55, t56, t57, t58, t59, t60, t61, t62, t63, t64, t65, t66, t67, t68, t69, t70, t71, t72, t73, t74, t75, t76, t77, t78], []⟩ W := by
  unfold act10 rnd10 Tryz.f10
  dsimp only
  obtain ⟨j0, hj, hz0, hz1, hz2⟩ := info_parts Tryz.info61
  have hml : 1000000 ≤ maxLen := by decide
  obtain ⟨p0, p1, p2, p3⟩ := heap_cells4 hP
  have m7 : W.cell? ⟨M, 7, none⟩ = some v := cell_of_heap hM
  have hPlt : P < W.heap.size := (Array.getElem?_eq_some_iff.1 hP).1
  have hMlt : M < W.heap.size := (Array.getElem?_eq_some_iff.1 hM).1
  have HM := Lib.hid hM
  have hnews := cells_new W #[.int .i64 idx, .int .i64 len, str txt, .slice o k cp] 61
  have HNW := Lib.hid hnews
  clear hnews hM hP
  go_wp2_with (at_builtin; refine wpList_append_own _ rfl _ _ 27 rfl base 61 j0 (.agg #[.int .i64 0, .int .i64 0, .string ⟨#[]⟩, .slice none 0 0]) 4 56 Tryz.underlying27 hj hz0 hz1 hz2 rfl (by decide) _ _ _ rfl (hown.alloc _) ⟨W.heap.size, 0, none⟩ 1 1 [.int .i64 idx, .int .i64 len, str txt, .slice o k cp] rfl rfl HNW.out (by intro u hu; simp only [List.mem_cons, List.not_mem_nil, or_false] at hu; rcases hu with rfl | rfl | rfl | rfl <;> rfl) (by omega) (by omega) (by simp; omega) ?_)
  intro v' w3 hown' hgrow hnil
  obtain ⟨ov, cv, rfl⟩ := ownsRow_slice hown'
  have HG := Lib.hid hgrow
  have HO := Lib.hid hown'
  have hMo : some M ≠ v.ownBlock := fun e => by
    obtain ⟨cs, h4⟩ := own_type hown e.symm
    have h5 := HM.out
    rw [h5] at h4
    simp at h4
  have hM3 : w3.heap[M]? = some (.cells #[c0, c1, c2, c3, c4, c5, c6, v] 29 (0, 0)) := (hgrow.block M (by simp; omega) hMo).trans ((Below.heap_alloc _ _ _ hMlt).trans HM.out)
  have HM3 := Lib.hid hM3
  clear p0 p1 p2 p3 m7
  have m7 : w3.cell? ⟨M, 7, none⟩ = some v := cell_of_heap hM3
  have g7 : w3.frozen? ⟨M, 7, none⟩ = false := frozen_of_heap hM3
  clear hM3 hgrow hown' hnil
  go_wp2
  exact hN _ _ _ _ _ _  (.slice ov (n + 1) cv) w3 HO.out HG.out HM3.out
end Go.Proofs.YtedfhallhpkkhaaGreatDoor.X
