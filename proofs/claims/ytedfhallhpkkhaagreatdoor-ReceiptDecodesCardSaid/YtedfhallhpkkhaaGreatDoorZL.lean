/- receipt.Decode: a new proof is begun. -/
import Derived.Test.YtedfhallhpkkhaaGreatDoorZK
import Derived.Deep.RegionWith
set_option linter.unusedVariables false
set_option linter.unusedSimpArgs false
namespace Go.Proofs.YtedfhallhpkkhaaGreatDoor.X
open Go Go.RowKit

set_option maxRecDepth 100000 in
set_option maxHeartbeats 40000000 in
theorem new_wp (s txt : List UInt8) (R B c M i i1 i2 B0 idx len : Nat) (f f1 f2 : Int) (w0 W : World) (t0 t1 t2 t3 t5 t6 t8 t9 t10 t11 t12 t13 t14 t15 t16 t17 t18 t19 t20 t21 t22 t23 t24 t25 t26 t27 t28 t29 t30 t31 t32 t33 t34 t35 t36 t37 t38 t39 t40 t41 t42 t43 t44 t45 t46 t47 t48 t49 t50 t51 t52 t53 t54 t55 t56 t57 t58 t59 t60 t61 t62 t63 t64 t65 t66 t67 t68 t69 t70 t71 t72 t73 t74 t75 t76 t77 t78 : Value) (c0 c1 c2 c3 c4 c5 c7 : Value)
   (hF : Far w0 B0 W W R B c s i f) (hM : W.heap[M]? = some (.cells #[c0, c1, c2, c3, c4, c5, .int .i64 len, c7] 29 (0, 0))) (h1 : Hid (rdNum s i f 9223372036854775807 = (idx, i1, f1))) (h2 : Hid (rdTxt s i1 f1 16777216 = (txt, i2, f2)))
   (NN : Act → World → Prop)
   (hN : ∀ (P : Nat) (u32 u33 u34 u35 u36 u37 u38 : Value) (W' : World), Far w0 B0 W W' R B c s i2 f2 → W.heap.size ≤ P → W'.heap[P]? = some (.cells #[.int .i64 idx, .int .i64 len, str txt, .slice none 0 0] 61 (0, 0)) → NN ⟨#[t0, t1, t2, t3, .pointer (some ⟨R, 0, none⟩), t5, t6, .pointer (some ⟨M, 0, none⟩), .pointer (some ⟨P, 0, none⟩), t9, t10, t11, t12, t13, t14, t15, t16, t17, t18, t19, t20, t21, t22, t23, t24, t25, t26, t27, t28, t29, t30, t31, u32, u33, u34, u35, u36, u37, u38, t39, t40, t41, t42, t43, t44, t45, t46, t47, t48, t49, t50, t51, t52, t53, t54, t55, t56, t57, t58, t59, t60, t61, t62, t63, t64, t65, t66, t67, t68, t69, t70, t71, t72, t73, t74, t75, t76, t77, t78], []⟩ W') :
    new10.wp Tryz.prog (Exit.then NN (fun _ _ _ => False)) ⟨#[t0, t1, t2, t3, .pointer (some ⟨R, 0, none⟩), t5, t6, .pointer (some ⟨M, 0, none⟩), t8, t9, t10, t11, t12, t13, t14, t15, t16, t17, t18, t19, t20, t21, t22, t23, t24, t25, t26, t27, t28, t29, t30, t31, t32, t33, t34, t35, t36, t37, t38, t39, t40, t41, t42, t43, t44, t45, t46, t47, t48, t49, t50, t51, t52, t53, t54, t55, t56, t57, t58, t59, t60, t61, t62, t63, t64, t65, t66, t67, t68, t69, t70, t71, t72, t73, t74, t75, t76, t77, t78], []⟩ W := by
  unfold new10 rnd10 Tryz.f10
  dsimp only
  have hMR : M ≠ R := fun e => by
    have := hF.rd.obj
    rw [← e, hM] at this
    simp at this
  have hMl : M < W.heap.size := (Array.getElem?_eq_some_iff.1 hM).1
  have HM := Lib.hid hM
  have m6 : W.cell? ⟨M, 6, none⟩ = some (.int .i64 len) := cell_of_heap hM
  clear hM
  have hlow : W.heap.size ≤ W.heap.size := Nat.le_refl _
  obtain ⟨hRl1, hRl2⟩ := hF.rd.lt
  go_region_with (first
    | (go_at_call 35; (first | (with_reducible refine Calls.mono (hF.drew.num h1) ?_) | (with_reducible refine Calls.mono ((hF.alloc _).drew.num h1) ?_)); rintro e wa ⟨rfl, hF2, hk⟩; have hM2 := hF2.old HM.out hMR; have HM2 := Lib.hid hM2; clear hM2; have m6 : wa.cell? ⟨M, 6, none⟩ = some (.int .i64 len) := cell_of_heap HM2.out; have hMl2 : M < wa.heap.size := Nat.lt_of_lt_of_le hMl hF2.size; have hsz2 := hF2.size; try (have hA := hk _ _ _ _ (heap_new _ _) (by decide); obtain ⟨x0, x1, x2, x3⟩ := heap_cells4 hA; obtain ⟨g0, g1, g2, g3⟩ := heap_frozen4 hA; have hAl := (Array.getElem?_eq_some_iff.1 hA).1))
    | (go_at_call 34; (first | (with_reducible refine Calls.mono (hF2.txt (by decide) h2) ?_) | (with_reducible refine Calls.mono ((hF2.alloc _).txt (by decide) h2) ?_)); rintro e wa ⟨rfl, hF3, hk2⟩; have hM3 := hF3.old HM.out hMR; have HM3 := Lib.hid hM3; clear hM3; have m6 : wa.cell? ⟨M, 6, none⟩ = some (.int .i64 len) := cell_of_heap HM3.out; have hMl3 : M < wa.heap.size := Nat.lt_of_lt_of_le hMl hF3.size; have hsz3 := hF3.size; first | (have hB := hk2 _ _ _ _ (heap_new _ _) (by decide); obtain ⟨x0, x1, x2, x3⟩ := heap_cells4 hB; obtain ⟨g0, g1, g2, g3⟩ := heap_frozen4 hB; have hBl := (Array.getElem?_eq_some_iff.1 hB).1) | (have hB := hk2 _ _ _ _ hA (by decide); clear x0 x1 x2 x3 g0 g1 g2 g3; obtain ⟨x0, x1, x2, x3⟩ := heap_cells4 hB; obtain ⟨g0, g1, g2, g3⟩ := heap_frozen4 hB; have hBl := (Array.getElem?_eq_some_iff.1 hB).1) | skip))
  all_goals show NN _ _
  all_goals refine hN _ _ _ _ _ _ _ _ _ ?_ ?_ ?_
  all_goals first
    | with_reducible exact hF3.alloc _
    | with_reducible exact heap_new _ _
    | with_reducible exact heap_setcells4 hB
    | ((with_reducible refine Far.set4 hF3 ?_ ?_ ?_) <;> omega)
    | omega
end Go.Proofs.YtedfhallhpkkhaaGreatDoor.X
