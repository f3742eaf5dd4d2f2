/- receipt.Decode: one digest of a path. -/
import Derived.Test.YtedfhallhpkkhaaGreatDoorZJ
import Derived.Laws.CopyOwn
set_option linter.unusedVariables false
set_option linter.unusedSimpArgs false
namespace Go.Proofs.YtedfhallhpkkhaaGreatDoor.X
open Go Go.RowKit

theorem Tryz.size5 : (Tryz.prog.info? 5).map (·.size) = some 1 := by kernel_rfl
theorem rdTxt_len32 (bs : List UInt8) (i : Nat) (f : Int) : (rdTxt bs i f 32).1.length ≤ 32 := by
  by_cases h : (rdTxt bs i f 32).2.2 = 0
  · have := (rdTxt_enc (bs := bs) (i := i) (f := f) (most := 32) (l := (rdTxt bs i f 32).1) (j := (rdTxt bs i f 32).2.1) (by rw [← h])).2.1
    omega
  · unfold rdTxt at h ⊢
    split
    · split
      · rename_i h1 h2
        rw [if_pos h1, if_pos h2] at h
        exact absurd rfl h
      · simp
    · simp
/-- A digest of what was read: zeros behind it. -/
def dgl (l : List UInt8) : List UInt8 := l ++ List.replicate (32 - l.length) 0
theorem dgl_len {l : List UInt8} (h : l.length ≤ 32) : (dgl l).length = 32 := by unfold dgl; simp; omega
theorem dgl_full {l : List UInt8} (h : l.length = 32) : dgl l = l := by unfold dgl; rw [h]; simp
set_option maxRecDepth 100000 in
set_option maxHeartbeats 40000000 in
theorem dig_wp (s l : List UInt8) (R B c P i i1 B0 base : Nat) (f f1 x : Int) (w0 W : World) (t0 t1 t2 t3 t5 t7 t9 t10 t11 t12 t13 t14 t15 t16 t17 t18 t19 t20 t21 t22 t23 t24 t25 t26 t27 t28 t29 t30 t31 t32 t33 t34 t35 t36 t37 t38 t39 t40 t41 t42 t43 t44 t45 t46 t47 t48 t49 t50 t51 t52 t53 t54 t55 t56 t57 t58 t59 t60 t61 t62 t63 t64 t65 t66 t67 t68 t69 t70 t71 t72 t73 t74 t75 t76 t77 t78 : Value) (hs : s.length ≤ 400) (hR : Rd W R B c s i f) (h1 : Hid (rdTxt s i f 32 = (l, i1, f1)))
   (q0 q1 q2 pv : Value) (path : List (List UInt8)) (hP : W.heap[P]? = some (.cells #[q0, q1, q2, pv] 61 (0, 0))) (hpath : PathAt W base pv path) (hpl : path.length ≤ 64) (hbel : Below B0 w0 W) (hB0 : B0 ≤ base) (hB0R : B0 ≤ R) (hbase : base ≤ W.heap.size) (hPb : base ≤ P)
   (NN : Act → World → Prop)
   (hN : ∀ (x' : Int) (u9 u43 u44 u45 u46 u47 u48 u49 u50 u51 u52 u53 v' : Value) (W' : World), (l.length < 32 → x' = 3) → (¬ l.length < 32 → x' = x) → Rd W' R B c s i1 f1 → W'.heap[P]? = some (.cells #[q0, q1, q2, v'] 61 (0, 0)) → PathAt W' base v' (path ++ [dgl l]) → Below B0 w0 W' → W.heap.size ≤ W'.heap.size →
     (∀ j, j < base → j ≠ R → W'.heap[j]? = W.heap[j]?) → NN ⟨#[t0, t1, t2, t3, .pointer (some ⟨R, 0, none⟩), t5, .int .i64 x', t7, .pointer (some ⟨P, 0, none⟩), u9, t10, t11, t12, t13, t14, t15, t16, t17, t18, t19, t20, t21, t22, t23, t24, t25, t26, t27, t28, t29, t30, t31, t32, t33, t34, t35, t36, t37, t38, t39, t40, t41, t42, u43, u44, u45, u46, u47, u48, u49, u50, u51, u52, u53, t54, t55, t56, t57, t58, t59, t60, t61, t62, t63, t64, t65, t66, t67, t68, t69, t70, t71, t72, t73, t74, t75, t76, t77, t78], []⟩ W') : dig10.wp Tryz.prog (Exit.then NN (fun _ _ _ => False)) ⟨#[t0, t1, t2, t3, .pointer (some ⟨R, 0, none⟩), t5, .int .i64 x, t7, .pointer (some ⟨P, 0, none⟩), t9, t10, t11, t12, t13, t14, t15, t16, t17, t18, t19, t20, t21, t22, t23, t24, t25, t26, t27, t28, t29, t30, t31, t32, t33, t34, t35, t36, t37, t38, t39, t40, t41, t42, t43, t44, t45, t46, t47, t48, t49, t50, t51, t52, t53, t54, t55, t56, t57, t58, t59, t60, t61, t62, t63, t64, t65, t66, t67, t68, t69, t70, t71, t72, t73, t74, t75, t76, t77, t78], []⟩ W := by
  unfold dig10 Tryz.f10
  dsimp only
  change Code.wp Tryz.prog (Code.seq _ (Code.seq _ app10)) _ _ _
  obtain ⟨j0, hj, hz0, hz1, hz2⟩ := info_parts Tryz.info50
  have hml : 1000000 ≤ maxLen := by decide
  go_wp2
  rename_i K hK
  have hlen : l.length ≤ 32 := by
    have h2 := rdTxt_len32 s i f
    rw [h1.out] at h2
    exact h2
  have hPlt : P < W.heap.size := (Array.getElem?_eq_some_iff.1 hP).1
  have hD := heap_new W (.cells #[.int .u8 0, .int .u8 0, .int .u8 0, .int .u8 0, .int .u8 0, .int .u8 0, .int .u8 0, .int .u8 0, .int .u8 0, .int .u8 0, .int .u8 0, .int .u8 0, .int .u8 0, .int .u8 0, .int .u8 0, .int .u8 0, .int .u8 0, .int .u8 0, .int .u8 0, .int .u8 0, .int .u8 0, .int .u8 0, .int .u8 0, .int .u8 0, .int .u8 0, .int .u8 0, .int .u8 0, .int .u8 0, .int .u8 0, .int .u8 0, .int .u8 0, .int .u8 0] 50)
  obtain ⟨D, hDD⟩ : ∃ D, W.heap.size = D := ⟨_, rfl⟩
  rw [hDD] at hD hPlt hbase ⊢
  have hR1 : Rd ((W.alloc (.cells #[.int .u8 0, .int .u8 0, .int .u8 0, .int .u8 0, .int .u8 0, .int .u8 0, .int .u8 0, .int .u8 0, .int .u8 0, .int .u8 0, .int .u8 0, .int .u8 0, .int .u8 0, .int .u8 0, .int .u8 0, .int .u8 0, .int .u8 0, .int .u8 0, .int .u8 0, .int .u8 0, .int .u8 0, .int .u8 0, .int .u8 0, .int .u8 0, .int .u8 0, .int .u8 0, .int .u8 0, .int .u8 0, .int .u8 0, .int .u8 0, .int .u8 0, .int .u8 0] 50)).drew) R B c s i f := (hR.alloc _).kept rfl rfl
  have hC := text_any R B c i f 32 s _ (by decide) hR1
  rw [h1.out] at hC
  have HDD := Lib.hid hDD
  clear hDD
  go_region_with (go_at_call 34; refine Calls.mono hC ?_; rintro e wn ⟨rfl, hR2, hgr⟩; have hD2 := hR1.keep hgr hD (by decide); have kcp := fun ty => Lib.run_copy_row_string (P := Tryz.prog) wn 63 9 ty 5 D 0 32 32 ⟨l.toArray⟩ #[.int .u8 0, .int .u8 0, .int .u8 0, .int .u8 0, .int .u8 0, .int .u8 0, .int .u8 0, .int .u8 0, .int .u8 0, .int .u8 0, .int .u8 0, .int .u8 0, .int .u8 0, .int .u8 0, .int .u8 0, .int .u8 0, .int .u8 0, .int .u8 0, .int .u8 0, .int .u8 0, .int .u8 0, .int .u8 0, .int .u8 0, .int .u8 0, .int .u8 0, .int .u8 0, .int .u8 0, .int .u8 0, .int .u8 0, .int .u8 0, .int .u8 0, .int .u8 0] 50 Tryz.underlying63 Tryz.size5 hD2 (by rw [str_size]; omega) (by rw [str_size]; simp; omega))
  show K _ _
  refine hK _ _ ?_
  clear hK kcp
  obtain ⟨DL, hds⟩ : ∃ DL, cellsOfBytes (dgl l) = DL := ⟨_, rfl⟩
  have hDlen : DL.length = 32 := by rw [← hds]; unfold cellsOfBytes; rw [List.length_map, dgl_len hlen]
  have hone : ∀ u ∈ DL, u.oneCell' = true := by rw [← hds]; exact bytes_one _
  have hcs : (Lib.byteCells l ++ List.drop l.length [.int .u8 0, .int .u8 0, .int .u8 0, .int .u8 0, .int .u8 0, .int .u8 0, .int .u8 0, .int .u8 0, .int .u8 0, .int .u8 0, .int .u8 0, .int .u8 0, .int .u8 0, .int .u8 0, .int .u8 0, .int .u8 0, .int .u8 0, .int .u8 0, .int .u8 0, .int .u8 0, .int .u8 0, .int .u8 0, .int .u8 0, .int .u8 0, .int .u8 0, .int .u8 0, .int .u8 0, .int .u8 0, .int .u8 0, .int .u8 0, .int .u8 0, .int .u8 0]) = DL := by
    rw [← hds]
    unfold dgl cellsOfBytes Lib.byteCells
    rw [List.map_append, List.map_replicate]
    congr 1
    rw [show ([.int .u8 0, .int .u8 0, .int .u8 0, .int .u8 0, .int .u8 0, .int .u8 0, .int .u8 0, .int .u8 0, .int .u8 0, .int .u8 0, .int .u8 0, .int .u8 0, .int .u8 0, .int .u8 0, .int .u8 0, .int .u8 0, .int .u8 0, .int .u8 0, .int .u8 0, .int .u8 0, .int .u8 0, .int .u8 0, .int .u8 0, .int .u8 0, .int .u8 0, .int .u8 0, .int .u8 0, .int .u8 0, .int .u8 0, .int .u8 0, .int .u8 0, .int .u8 0] : List Value) = List.replicate 32 (.int .u8 0) from rfl, List.drop_replicate]
    rfl
  rw [hcs]
  obtain ⟨DC, hDC⟩ : ∃ DC : Array Value, DL.toArray = DC := ⟨_, rfl⟩
  have hDCl : DC.toList = DL := by rw [← hDC]
  have hDCs : DC.size = 32 := by rw [← hDC]; simpa using hDlen
  rw [hDC]
  obtain ⟨W2, hW2⟩ : ∃ W2, wn.setRow D DC = W2 := ⟨_, rfl⟩
  rw [hW2]
  have hDh : W2.heap[D]? = some (.cells DC 50 (0, 0)) := hW2 ▸ setRow_heap wn D _ _ 50 (0, 0) hD2
  have hoth : ∀ j, j ≠ D → W2.heap[j]? = wn.heap[j]? := fun j hj => hW2 ▸ setRow_other wn D j _ hj
  have hbW2 : Below B0 w0 W2 := hW2 ▸ below_setRow (((hbel.alloc (Nat.le_trans hB0 (by rw [HDD.out]; exact hbase)) _).drew).grown hgr (by simp; rw [HDD.out]; omega) (fun k e => by cases e; exact hB0R)) (by omega) _
  have hRD : R < D ∧ B < D := by have := hR.lt; rw [HDD.out] at this; exact this
  have hRW : Rd W2 R B c s i1 f1 := hR2.kept (hoth R (Nat.ne_of_lt hRD.1)) (hoth B (Nat.ne_of_lt hRD.2))
  have hold : ∀ (j : Nat) (cs : Array Value) (t : TypeId) (fz : Nat × Nat), W.heap[j]? = some (.cells cs t fz) → t ≠ 189 → W2.heap[j]? = some (.cells cs t fz) := fun j cs t fz hj ht => by
    have hlt := (Array.getElem?_eq_some_iff.1 hj).1
    rw [hoth j (by rw [HDD.out] at hlt; omega)]
    exact hR1.keep hgr ((Below.heap_alloc _ _ _ hlt).trans hj) ht
  have hP2 := hold _ _ _ _ hP (by decide)
  have hpath2 : PathAt W2 base pv path := hpath.same fun j cs fz hj => (hold _ _ _ _ hj (by decide)).trans hj.symm
  have hfar : ∀ j, j < base → j ≠ R → W2.heap[j]? = W.heap[j]? := fun j hj hne => by
    rw [hoth j (by omega), hgr.block j (by simp; rw [HDD.out]; omega) (by simpa using hne)]
    exact Below.heap_alloc _ _ _ (by rw [HDD.out]; omega)
  have hsz2 : D < W2.heap.size := (Array.getElem?_eq_some_iff.1 hDh).1
  have HDh := Lib.hid hDh
  have HDCs := Lib.hid hDCs
  have HDlen := Lib.hid hDlen
  have HDCl := Lib.hid hDCl
  have hlt2 : P < W2.heap.size := by omega
  have hpl1 := hpath2.1
  have HFAR := Lib.hid hfar
  have HOLD := Lib.hid hold
  have HDS := Lib.hid hds
  have HP2 := Lib.hid hP2
  clear hfar hold hds hP2 hcs hoth hW2 hDh hD2 hgr hR2 hR1 hC hP hpath hD hR hbel hDCs hDlen hDCl hDC
  have hcase : (l.length < 32 ∧ (l.length : Int) < 32) ∨ (¬ l.length < 32 ∧ ¬ (l.length : Int) < 32) := by omega
  rcases hcase with ⟨hl, hl'⟩ | ⟨hl, hl'⟩
  all_goals
    go_wp2
    refine Go.wp_mono (app_wp P D base W2 _ _ _ _ _ _ _ _ _ _ _ _ _ _ _ _ _ _ _ _ _ _ _ _ _ _ _ _ _ _ _ _ _ _ _ _ _ _ _ _ _ _ _ _ _ _ _ _ _ _ _ _ _ _ _ _ _ _ _ _ _ _ _ _ _ _ _ _ _ _ _ _ _ _ _ _ _  q0 q1 q2 pv path.length (digCells path) DL DC HDCl HDCs hone HP2.out HDh hpl1 hpl (by omega) hPb _ ?_) (fun e a w h => by cases e <;> first | exact h | exact h.elim)
    intro z0 z1 z2 z3 z4 z5 v' w3 hown' hgrow hP3
    obtain ⟨ov, cv, rfl⟩ := ownsRow_slice hown'
    have HG := Lib.hid hgrow
    have HO := Lib.hid hown'
    have HP3 := Lib.hid hP3
    clear hP3 hgrow hown'
    have hold3 : ∀ (j : Nat) (cs : Array Value) (t : TypeId) (fz : Nat × Nat), W2.heap[j]? = some (.cells cs t fz) → t ≠ 50 → w3.heap[j]? = some (.cells cs t fz) := fun j cs t fz h4 ht => by
      have hlt := (Array.getElem?_eq_some_iff.1 h4).1
      refine (HG.out.block j (by simp; omega) (fun e => ?_)).trans ((Below.heap_alloc _ _ _ hlt).trans h4)
      obtain ⟨cs', h5⟩ := own_type hpl1 e.symm
      rw [h4] at h5
      cases h5
      exact ht rfl
    have hRP : R ≠ P := fun e => by
      have := hRW.obj
      rw [e, HP2.out] at this
      simp at this
    have hBP : B ≠ P := fun e => by
      obtain ⟨cs, fz, h4, _⟩ := hRW.row
      rw [e, HP2.out] at h4
      simp at h4
    have hrow := hRW.row
    have hRd : Rd (w3.setCell ⟨P, 3, none⟩ (.slice ov (path.length + 1) cv)) R B c s i1 f1 := by
      obtain ⟨cs, fz, h4, h5⟩ := hrow
      exact hRW.kept ((Below.heap_setCell _ _ _ _ hRP).trans ((hold3 _ _ _ _ hRW.obj (by decide)).trans hRW.obj.symm)) ((Below.heap_setCell _ _ _ _ hBP).trans ((hold3 _ _ _ _ h4 (by decide)).trans h4.symm))
    have hnP : ∀ j, j ≠ P → (w3.setCell ⟨P, 3, none⟩ (.slice ov (path.length + 1) cv)).heap[j]? = w3.heap[j]? := fun j hj => Below.heap_setCell _ _ _ _ hj
    have hvP : ∀ j, (Value.slice ov (path.length + 1) cv).ownBlock = some j → j ≠ P := fun j hj e => by
      obtain ⟨cs, h4⟩ := own_type HO.out hj
      rw [e, HP3.out] at h4
      simp at h4
    have hbg : ∀ j, pv.ownBlock = some j → base ≤ j := fun j hj => own_lt hpl1 hj
    go_wp2
    refine hN _ _ _ _ _ _ _ _ _ _ _ _ _ (.slice ov (path.length + 1) cv) _ (by first | exact fun _ => rfl | exact fun h => absurd h hl) (by first | exact fun _ => rfl | exact fun h => absurd hl h) hRd ?_ ?_ ?_ ?_ ?_
    · exact (heap_setj (j := 3) HP3.out).trans (by simp)
    · refine ⟨?_, fun d hd => ?_⟩
      · have h6 : digCells (path ++ [dgl l]) = digCells path ++ DL := by rw [← HDS.out]; simp [digCells]
        rw [h6, List.length_append]
        exact own_same HO.out fun j hj => hnP j (hvP j hj)
      · rcases List.mem_append.1 hd with h | h
        · exact hpath2.2 d h
        · rw [List.mem_singleton.1 h]; exact dgl_len hlen
    · exact ((hbW2.alloc (by omega) _).grown HG.out (by simp; omega) (fun k e => Nat.le_trans hB0 (hbg k e))).setCell (p := ⟨P, 3, none⟩) (by show B0 ≤ P; omega) _
    · rw [HDD.out]
      have := HG.out.size
      simp at this ⊢
      omega
    · intro j hj hne
      rw [hnP j (by omega), HG.out.block j (by simp; omega) (fun e => by have := hbg j e.symm; omega), Below.heap_alloc _ _ _ (by omega)]
      exact HFAR.out j hj hne
end Go.Proofs.YtedfhallhpkkhaaGreatDoor.X
