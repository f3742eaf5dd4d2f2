/- receipt.Decode: the inner loop. -/
import Derived.Test.YtedfhallhpkkhaaGreatDoorZK
set_option linter.unusedVariables false
set_option linter.unusedSimpArgs false
namespace Go.Proofs.YtedfhallhpkkhaaGreatDoor.X
open Go Go.RowKit

/-- A path is read: what the inner loop leaves. -/
structure Pth (w0 : World) (B0 : Nat) (W W' : World) (R B c P base : Nat) (s : List UInt8) (q0 q1 q2 : Value) (x0 : Int) (pre : List UInt8) (pv : Value) (path : List (List UInt8)) (i : Nat) (f x : Int) : Prop where
  rd : Rd W' R B c s i f
  hP : W'.heap[P]? = some (.cells #[q0, q1, q2, pv] 61 (0, 0))
  hpath : PathAt W' base pv path
  bel : Below B0 w0 W'
  size : W.heap.size ≤ W'.heap.size
  far : ∀ (j : Nat), j < base → j ≠ R → W'.heap[j]? = W.heap[j]?
  wrong : x = 0 → x0 = 0
  enc : St2 s i f x (pre ++ encPath path)
set_option maxRecDepth 100000 in
set_option maxHeartbeats 40000000 in
theorem inner_wp (s : List UInt8) (R B c P i i1 B0 base cnt : Nat) (f f1 x : Int) (w0 W : World) (t0 t1 t2 t3 t5 t7 t9 t10 t11 t12 t13 t14 t15 t16 t17 t18 t19 t20 t21 t22 t23 t24 t25 t26 t27 t28 t29 t30 t31 t32 t33 t34 t35 t36 t37 t38 t39 t40 t41 t42 t43 t44 t45 t46 t47 t48 t49 t50 t51 t52 t53 t54 t55 t56 t57 t58 t59 t60 t61 t62 t63 t64 t65 t66 t67 t68 t69 t70 t71 t72 t73 t74 t75 t76 t77 t78 : Value) (hs : s.length ≤ 400)
   (hF : Far w0 B0 W W R B c s i f) (q0 q1 q2 : Value) (hP : W.heap[P]? = some (.cells #[q0, q1, q2, .slice none 0 0] 61 (0, 0))) (hB0 : B0 ≤ base) (hbase : base ≤ P) (hRb : R < base) (h1 : Hid (rdNum s i f 64 = (cnt, i1, f1))) (hc : cnt ≤ 64)
   (pre : List UInt8) (henc : St2 s i1 f1 x pre) (NN : Act → World → Prop)
   (hN : ∀ (x' : Int) (u9 u39 u40 u41 u42 u43 u44 u45 u46 u47 u48 u49 u50 u51 u52 u53 u54 : Value) (W' : World) (pv : Value) (path : List (List UInt8)) (i' : Nat) (f' : Int), path.length = cnt → Pth w0 B0 W W' R B c P base s q0 q1 q2 x pre pv path i' f' x' → NN ⟨#[t0, t1, t2, t3, .pointer (some ⟨R, 0, none⟩), t5, .int .i64 x', t7, .pointer (some ⟨P, 0, none⟩), u9, t10, t11, t12, t13, t14, t15, t16, t17, t18, t19, t20, t21, t22, t23, t24, t25, t26, t27, t28, t29, t30, t31, t32, t33, t34, t35, t36, t37, t38, u39, u40, u41, u42, u43, u44, u45, u46, u47, u48, u49, u50, u51, u52, u53, u54, t55, t56, t57, t58, t59, t60, t61, t62, t63, t64, t65, t66, t67, t68, t69, t70, t71, t72, t73, t74, t75, t76, t77, t78], []⟩ W') :
    mid10.wp Tryz.prog (Exit.then NN (fun _ _ _ => False)) ⟨#[t0, t1, t2, t3, .pointer (some ⟨R, 0, none⟩), t5, .int .i64 x, t7, .pointer (some ⟨P, 0, none⟩), t9, t10, t11, t12, t13, t14, t15, t16, t17, t18, t19, t20, t21, t22, t23, t24, t25, t26, t27, t28, t29, t30, t31, t32, t33, t34, t35, t36, t37, t38, t39, t40, t41, t42, t43, t44, t45, t46, t47, t48, t49, t50, t51, t52, t53, t54, t55, t56, t57, t58, t59, t60, t61, t62, t63, t64, t65, t66, t67, t68, t69, t70, t71, t72, t73, t74, t75, t76, t77, t78], []⟩ W := by
  unfold mid10 rnd10 Tryz.f10
  dsimp only
  have hPR : P ≠ R := by omega
  have hrlow := hF.rlow
  have HP := Lib.hid hP
  clear hP
  go_wp2_with (go_at_call 35; (with_reducible refine Calls.mono (hF.num h1) ?_); rintro e wa ⟨rfl, hF2, hk⟩)
  have hP2 := hF2.old HP.out hPR
  have hs0 := hF2.size
  have hPw : P < W.heap.size := (Array.getElem?_eq_some_iff.1 HP.out).1
  have hst : Pth w0 B0 W wa R B c P base s q0 q1 q2 x pre (.slice none 0 0) [] i1 f1 x :=
    ⟨hF2.rd, hP2, ⟨World.ownsRow_nil _ _ _ _, fun d h => by cases h⟩, hF2.bel, hF2.size, fun j hj hne => hF2.far j (by omega) hne, id, by simpa [encPath] using henc⟩
  go_loopw [6, 41] (fun q6 q41 X => ∃ (x' : Int) (pv : Value) (path : List (List UInt8)) (i' : Nat) (f' : Int), q6 = .int .i64 x' ∧ q41 = .int .i64 path.length ∧ path.length ≤ cnt ∧ Pth w0 B0 W X R B c P base s q0 q1 q2 x pre pv path i' f' x')
    (fun _ q _ => cnt + 1 - (RowKit.intOf q).toNat)
  case atStart => exact ⟨x, _, [], i1, f1, rfl, rfl, by simp, hst⟩
  case round =>
    obtain ⟨x', pv, path, i', f', rfl, rfl, hle, hp⟩ := hrel
    change Code.wp Tryz.prog (Code.seq _ (Code.seq _ (Code.seq (Code.block _ dig10) _))) _ _ _
    have hPw2 := Nat.lt_of_lt_of_le hPw hp.size
    by_cases hlt : path.length < cnt
    · have hlt' : (path.length : Int) < cnt := by omega
      have hp64 : (path.length : Int) ≤ 64 := by omega
      have hHP := Lib.hid hp
      clear hp hst hP2 hs0 hk hF2
      go_wp2
      obtain ⟨⟨l, i2, f2⟩, hr⟩ : ∃ r, rdTxt s i' f' 32 = r := ⟨_, rfl⟩
      have HR := Lib.hid hr
      clear hr
      refine Go.wp_mono (dig_wp s l R B c P i' i2 B0 base f' f2 x' w0 wr _ _ _ _ _ _ _ _ _ _ _ _ _ _ _ _ _ _ _ _ _ _ _ _ _ _ _ _ _ _ _ _ _ _ _ _ _ _ _ _ _ _ _ _ _ _ _ _ _ _ _ _ _ _ _ _ _ _ _ _ _ _ _ _ _ _ _ _ _ _ _ _ _ _ _ _  hs hHP.out.rd HR q0 q1 q2 pv path hHP.out.hP hHP.out.hpath (by omega) hHP.out.bel hB0 (by omega) (by omega) hbase _ ?_) (fun e a w h => by cases e <;> first | exact h | exact h.elim)
      intro x2 z0 z1 z2 z3 z4 z5 z6 z7 z8 z9 z10 z11 v' w3 hx1 hx2 hrd hP3 hpa hbl hsz hfar
      have hnext : Pth w0 B0 W w3 R B c P base s q0 q1 q2 x pre v' (path ++ [dgl l]) i2 f2 x2 :=
        ⟨hrd, hP3, hpa, hbl, Nat.le_trans hHP.out.size hsz, fun j hj hne => (hfar j hj hne).trans (hHP.out.far j hj hne), fun h0 => by
          by_cases h32 : l.length < 32
          · rw [hx1 h32] at h0; cases h0
          · exact hHP.out.wrong ((hx2 h32).symm.trans h0), by rw [encPath_snoc, ← List.append_assoc]; exact hHP.out.enc.dig HR hx1 hx2⟩
      clear hx1 hx2 hrd hP3 hpa hbl hsz hfar
      have HN := Lib.hid hnext
      clear hnext
      go_wp2
      go_round
      case rel => exact ⟨x2, v', path ++ [dgl l], i2, f2, rfl, by simp, by simp; omega, HN.out⟩
      case measure => simp [RowKit.intOf]; omega
    · have hie : path.length = cnt := by omega
      have hlt' : ¬ (path.length : Int) < cnt := by omega
      have hHP := Lib.hid hp
      have HIE := Lib.hid hie
      clear hp hie hst hP2 hs0 hk hF2
      go_wp2
      exact hN _ _ _ _ _ _ _ _ _ _ _ _ _ _ _ _ _ _  _ pv path i' f' HIE.out hHP.out
end Go.Proofs.YtedfhallhpkkhaaGreatDoor.X
