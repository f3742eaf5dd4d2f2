/- receipt.Decode behind its header. -/
import Derived.Test.YtedfhallhpkkhaaGreatDoorZO
import Derived.Test.YtedfhallhpkkhaaGreatDoorZL
set_option linter.unusedVariables false
set_option linter.unusedSimpArgs false
namespace Go.Proofs.YtedfhallhpkkhaaGreatDoor.X
open Go Go.RowKit

noncomputable def tail10 : Code := match Tryz.f10.body with
  | some (Code.seq _ (Code.seq _ (Code.seq _ (Code.seq _ c)))) => c
  | _ => Code.skip
def zeroRc : Value := .agg z8
/-- What receipt.Decode leaves. -/
def RdPost (w0 : World) (B0 : Nat) (s : List UInt8) (h : Hdr) (wr0 : Int) (pre : List UInt8) (cnt : Nat) (e : Ending) (w' : World) : Prop :=
  Below B0 w0 w' ∧ (e = .returned (.tuple #[zeroRc, .int .i64 3]) ∨ ∃ (v : Value) (l : List (AcP × Value)), e = .returned (.tuple #[.agg (h.cells v), .int .i64 0]) ∧ wr0 = 0 ∧ l.length = cnt ∧ ActsAt w' B0 h.len v l ∧ (∀ a ∈ l, AcOk a.1) ∧ s = pre ++ encAcs (l.map (·.1)))
theorem Rcp.grown {w0 X X' : World} {B0 : Nat} {R B c N M : Nat} {s : List UInt8} {h : Hdr} {wr0 : Int} {pre : List UInt8} {v : Value} {l : List (AcP × Value)} {i : Nat} {f x : Int} (hr : Rcp w0 B0 X R B c N M s h wr0 pre v l i f x) (g : X.grownBy X' none) : Rcp w0 B0 X' R B c N M s h wr0 pre v l i f x := by
  have hk : ∀ (j : Nat) (cs : Array Value) (t : TypeId) (fz : Nat × Nat), X.heap[j]? = some (.cells cs t fz) → X'.heap[j]? = X.heap[j]? := fun j cs t fz hj => g.block j (Array.getElem?_eq_some_iff.1 hj).1 (by simp)
  obtain ⟨cs, fz, q1, q2⟩ := hr.rd.row
  exact ⟨hr.rd.kept (hk _ _ _ _ hr.rd.obj) (hk _ _ _ _ q1), (hk _ _ _ _ hr.hN).trans hr.hN, (hk _ _ _ _ hr.hM).trans hr.hM, hr.acts.same fun j cs t fz hj _ => hk _ _ _ _ hj, hr.bel.grown g hr.size (by simp), hr.ok, hr.wrong, hr.enc, Nat.le_trans hr.size g.size⟩
theorem Rcp.far {w0 X : World} {B0 : Nat} {R B c N M : Nat} {s : List UInt8} {h : Hdr} {wr0 : Int} {pre : List UInt8} {v : Value} {l : List (AcP × Value)} {i : Nat} {f x : Int} (hr : Rcp w0 B0 X R B c N M s h wr0 pre v l i f x) (hR : B0 ≤ R) : Far w0 B0 X X R B c s i f := Far.start hr.rd hr.bel hr.size hR
theorem Hd.set8 {w0 W : World} {N b5 R B c : Nat} {s : List UInt8} {i : Nat} {f : Int} {z nm : Array Value} {b : Nat} {v0 v1 v2 v3 v4 v5 v6 v7 : Value} (h : Hd w0 W N b5 R B c s i f z nm) (h1 : w0.heap.size ≤ b) (h2 : N ≠ b) (h3 : b5 ≠ b) (h4 : R ≠ b) (h5 : B ≠ b) : Hd w0 ((((((((W.setCell ⟨b, 0, none⟩ v0).setCell ⟨b, 1, none⟩ v1).setCell ⟨b, 2, none⟩ v2).setCell ⟨b, 3, none⟩ v3).setCell ⟨b, 4, none⟩ v4).setCell ⟨b, 5, none⟩ v5).setCell ⟨b, 6, none⟩ v6).setCell ⟨b, 7, none⟩ v7) N b5 R B c s i f z nm :=
  ⟨(heap_setother8 h2).trans h.hN, (heap_setother8 h3).trans h.h5, h.rd.kept (heap_setother8 h4) (heap_setother8 h5), Below.set8 h.bel h1, h.rlow⟩
theorem Hdr.has (h : Hdr) (v : Value) {w : World} {M : Nat} {fz : Nat × Nat} (hM : w.heap[M]? = some (.cells (h.cells v) 29 fz)) : w.heap[M]? = some (.cells #[.int .i64 h.k, str h.o, .int .i64 h.n, .int .i64 h.i, str h.t, .int .i64 h.at', .int .i64 h.len, v] 29 fz) := hM
set_option maxRecDepth 100000 in
set_option maxHeartbeats 40000000 in
theorem rd_tail (s : List UInt8) (R B c N M i i1 B0 cnt : Nat) (f f1 wr0 : Int) (h : Hdr) (w0 W : World) (t0 t1 t5 t8 t9 t10 t11 t12 t13 t14 t15 t16 t17 t18 t19 t20 t21 t22 t23 t24 t25 t26 t27 t28 t29 t30 t31 t32 t33 t34 t35 t36 t37 t38 t39 t40 t41 t42 t43 t44 t45 t46 t47 t48 t49 t50 t51 t52 t53 t54 t55 t56 t57 t58 t59 t60 t61 t62 t63 t64 t65 t66 t67 t68 t69 t70 t71 t72 t73 t74 t75 t76 t77 t78 : Value) (hs : s.length ≤ 400)
   (hrd : Rd W R B c s i f) (hN0 : W.heap[N]? = some (.cells z8 29 (0, 0))) (hM0 : W.heap[M]? = some (.cells (h.cells (.slice none 0 0)) 29 (0, 0))) (hbel : Below B0 w0 W) (hB0 : B0 ≤ W.heap.size) (hBR : B0 ≤ R) (hBM : B0 ≤ M) (hBN : B0 ≤ N) (hNM : N ≠ M)
   (h1 : Hid (rdNum s i f 4096 = (cnt, i1, f1))) (hc : cnt ≤ 4096) (pre : List UInt8) (henc : St2 s i1 f1 wr0 pre) :
    tail10.wp Tryz.prog (bodyPost Tryz.prog Tryz.f10 (RdPost w0 B0 s h wr0 pre cnt)) ⟨#[t0, t1, .pointer (some ⟨N, 0, none⟩), .int .i64 0, .pointer (some ⟨R, 0, none⟩), t5, .int .i64 wr0, .pointer (some ⟨M, 0, none⟩), t8, t9, t10, t11, t12, t13, t14, t15, t16, t17, t18, t19, t20, t21, t22, t23, t24, t25, t26, t27, t28, t29, t30, t31, t32, t33, t34, t35, t36, t37, t38, t39, t40, t41, t42, t43, t44, t45, t46, t47, t48, t49, t50, t51, t52, t53, t54, t55, t56, t57, t58, t59, t60, t61, t62, t63, t64, t65, t66, t67, t68, t69, t70, t71, t72, t73, t74, t75, t76, t77, t78], []⟩ W := by
  unfold tail10 Tryz.f10
  dsimp only
  have hF := Far.start hrd hbel hB0 hBR
  go_wp2_with (go_at_call 35; (with_reducible refine Calls.mono (hF.num h1) ?_); rintro e wa ⟨rfl, hF2, hk⟩)
  have hst : Rcp w0 B0 wa R B c N M s h wr0 pre (.slice none 0 0) [] i1 f1 wr0 :=
    ⟨hF2.rd, hk _ _ _ _ hN0 (by decide), hk _ _ _ _ hM0 (by decide), ⟨World.ownsRow_nil _ _ _ _, (fun a ha => by cases ha)⟩, hF2.bel, (fun a ha => by cases ha), id, by simpa [encAcs] using henc, Nat.le_trans hB0 hF2.size⟩
  clear hN0 hM0 hbel hB0 hF hF2 hk hrd henc h1
  go_loopw [6, 30] (fun q6 q30 X => ∃ (x : Int) (v : Value) (l : List (AcP × Value)) (i : Nat) (f : Int), q6 = .int .i64 x ∧ q30 = .int .i64 l.length ∧ l.length ≤ cnt ∧ Rcp w0 B0 X R B c N M s h wr0 pre v l i f x)
    (fun _ q _ => cnt + 1 - (RowKit.intOf q).toNat)
  case atStart => exact ⟨wr0, _, [], i1, f1, rfl, rfl, by simp, hst⟩
  case round =>
    clear hst
    obtain ⟨x, v, l, ii, ff, rfl, rfl, hle, hr⟩ := hrel
    change Code.wp Tryz.prog (Code.seq _ (Code.seq _ (Code.seq (Code.block _ (Code.seq new10 (Code.seq mid10 (Code.seq act10 _)))) _))) _ _ _
    by_cases hlt : l.length < cnt
    · have hlt' : (l.length : Int) < cnt := by omega
      have hp4 : (l.length : Int) ≤ 4096 := by omega
      have HR := Lib.hid hr
      clear hr
      go_wp2
      obtain ⟨⟨idx, i2, f2⟩, e1⟩ : ∃ r, rdNum s ii ff 9223372036854775807 = r := ⟨_, rfl⟩
      obtain ⟨⟨txt, i3, f3⟩, e2⟩ : ∃ r, rdTxt s i2 f2 16777216 = r := ⟨_, rfl⟩
      obtain ⟨⟨cnt2, i4, f4⟩, e3⟩ : ∃ r, rdNum s i3 f3 64 = r := ⟨_, rfl⟩
      have l1 := rdNum_lt s ii ff 9223372036854775807
      have l2 := rdTxt_len s i2 f2 16777216
      have l3 := rdNum_le s i3 f3 64 (by decide)
      rw [e1] at l1
      rw [e2] at l2
      rw [e3] at l3
      simp only at l1 l2 l3
      have E1 := Lib.hid e1
      have E2 := Lib.hid e2
      have E3 := Lib.hid e3
      clear e1 e2 e3
      refine Go.wp_mono (new_wp s txt R B c M ii i2 i3 B0 idx h.len ff f2 f3 w0 wr _ _ _ _ _ _ _ _ _ _ _ _ _ _ _ _ _ _ _ _ _ _ _ _ _ _ _ _ _ _ _ _ _ _ _ _ _ _ _ _ _ _ _ _ _ _ _ _ _ _ _ _ _ _ _ _ _ _ _ _ _ _ _ _ _ _ _ _ _ _ _ _ _ _ _ _ _  _ _ _ _ _ _ _ (HR.out.far hBR) HR.out.hM E1 E2 _ ?_) (fun e a w h => by cases e <;> first | exact h | exact h.elim)
      intro P a32 a33 a34 a35 a36 a37 a38 W1 hF1 hPl hPc
      have HF1 := Lib.hid hF1
      have HPl := Lib.hid hPl
      have HPc := Lib.hid hPc
      clear hF1 hPl hPc
      go_wp2
      refine Go.wp_mono (inner_wp s R B c P i3 i4 B0 wr.heap.size cnt2 f3 f4 x w0 W1 _ _ _ _ _ _ _ _ _ _ _ _ _ _ _ _ _ _ _ _ _ _ _ _ _ _ _ _ _ _ _ _ _ _ _ _ _ _ _ _ _ _ _ _ _ _ _ _ _ _ _ _ _ _ _ _ _ _ _ _ _ _ _ _ _ _ _ _ _ _ _ _ _ _ _ _  hs (Far.start HF1.out.rd HF1.out.bel (Nat.le_trans HR.out.size HF1.out.size) hBR) _ _ _ HPc.out HR.out.size HPl.out HR.out.rd.lt.1 E3 (by omega) (pre ++ encAcs (l.map (·.1)) ++ encN idx ++ encT txt ++ encN cnt2) (((HR.out.enc.num E1).txt E2).num E3) _ ?_) (fun e a w h => by cases e <;> first | exact h | exact h.elim)
      intro x2 zz0 zz1 zz2 zz3 zz4 zz5 zz6 zz7 zz8 zz9 zz10 zz11 zz12 zz13 zz14 zz15 zz16 W2 pv path i5 f5 hpl hp
      subst hpl
      obtain ⟨o, cp, rfl⟩ := ownsRow_slice hp.hpath.1
      have HP := Lib.hid hp
      clear hp
      go_wp2
      refine Go.wp_mono (act_wp P M B0 W2 _ _ _ _ _ _ _ _ _ _ _ _ _ _ _ _ _ _ _ _ _ _ _ _ _ _ _ _ _ _ _ _ _ _ _ _ _ _ _ _ _ _ _ _ _ _ _ _ _ _ _ _ _ _ _ _ _ _ _ _ _ _ _ _ _ _ _ _ _ _ _ _ _ _ _ _ _  _ _ _ _ _ _ _ v idx h.len path.length txt o cp (acRow h.len l) l.length (HR.out.old HF1.out HP.out HR.out.hM (by decide)) HP.out.hP (HR.out.own2 HF1.out HP.out) (by omega) (Nat.le_trans HR.out.size (Nat.le_trans HF1.out.size HP.out.size)) (fun j hj e => by have := (HR.out.acts.1.lt j hj).2; have := HPl.out; omega) _ ?_) (fun e a w h => by cases e <;> first | exact h | exact h.elim)
      intro b55 b56 b57 b58 b59 b60 v' W3 hown hg hM3
      have hnext := HR.out.next HF1.out HP.out hNM hBM ⟨l1, Nat.le_trans l2 hs, (by have h9 : path.length ≤ 64 := by omega
                                                                                    exact h9)⟩ hown hg hM3
      have HX := Lib.hid hnext
      clear hnext hown hg hM3
      have hC := failed_any R B c i5 f5 s _ HX.out.rd
      by_cases hf : f5 = 0
      · subst hf
        go_wp2_with (go_at_call 36; refine Calls.mono hC ?_; rintro e wn ⟨⟨y, rfl⟩, hRd, hgn⟩)
        have HY := Lib.hid (HX.out.grown hgn)
        clear hgn hRd hC
        go_round
        case rel => exact ⟨x2, v', l ++ [(⟨idx, txt, path⟩, _)], i5, 0, rfl, by simp, by simp; omega, HY.out⟩
        case measure => simp [RowKit.intOf]; omega
      · have hf' : (f5 != 0) = true := by simpa using hf
        go_wp2_with (go_at_call 36; refine Calls.mono hC ?_; rintro e wn ⟨⟨y, rfl⟩, hRd, hgn⟩; have HY := Lib.hid (HX.out.grown hgn); clear hgn hRd hC; have hz : wn.heap[N]? = some (.cells #[.int .i64 0, .string ⟨#[]⟩, .int .i64 0, .int .i64 0, .string ⟨#[]⟩, .int .i64 0, .int .i64 0, .slice none 0 0] 29 (0, 0)) := HY.out.hN; obtain ⟨y0, y1, y2, y3, y4, y5, y6, y7⟩ := heap_cells8 hz; obtain ⟨g0, g1, g2, g3, g4, g5, g6, g7⟩ := heap_frozen8 hz)
        exact bodyPost_ret (v := .tuple #[zeroRc, .int .i64 3]) (by simp [results, Tryz.results10, go_sem, zeroRc, z8, y0, y1, y2, y3, y4, y5, y6, y7]) rfl ⟨Below.set8 HY.out.bel hBN, .inl rfl⟩
    · have hie : l.length = cnt := by omega
      have hlt' : ¬ (l.length : Int) < cnt := by omega
      have HR := Lib.hid hr
      have HIE := Lib.hid hie
      obtain ⟨ov, cv, rfl⟩ := ownsRow_slice hr.acts.1
      have hC := close_any R B c ii ff s _ hr.rd
      obtain ⟨cl, hcl⟩ : ∃ cl, clsF s ii ff = cl := ⟨_, rfl⟩
      rw [hcl] at hC
      have HCL := Lib.hid hcl
      clear hr hie hcl
      by_cases hc0 : cl = 0
      · by_cases hx0 : x = 0
        · subst hc0 hx0
          go_wp2_with (go_at_call 37; refine Calls.mono hC ?_; rintro e wn ⟨rfl, hRd, hgn⟩; have HY := Lib.hid (HR.out.grown hgn); clear hgn hRd hC; have hz : wn.heap[N]? = some (.cells #[.int .i64 0, .string ⟨#[]⟩, .int .i64 0, .int .i64 0, .string ⟨#[]⟩, .int .i64 0, .int .i64 0, .slice none 0 0] 29 (0, 0)) := HY.out.hN; obtain ⟨y0, y1, y2, y3, y4, y5, y6, y7⟩ := heap_cells8 hz; obtain ⟨g0, g1, g2, g3, g4, g5, g6, g7⟩ := heap_frozen8 hz; obtain ⟨m0, m1, m2, m3, m4, m5, m6, m7⟩ := heap_cells8 (h.has _ HY.out.hM))
          exact bodyPost_ret (v := .tuple #[.agg (h.cells (.slice ov l.length cv)), .int .i64 0]) (by simp [results, Tryz.results10, go_sem, Hdr.cells, y0, y1, y2, y3, y4, y5, y6, y7]) rfl
            ⟨Below.set8 HY.out.bel hBN, .inr ⟨_, l, rfl, HY.out.wrong rfl, HIE.out, HY.out.acts.same (fun j cs t fz hj ht => heap_setother8 (fun e => by rw [e, HY.out.hN] at hj; cases hj; rcases ht with h | h <;> cases h)), HY.out.ok, by
              obtain ⟨h0, h2⟩ := cls_zero HCL.out
              have h3 := HY.out.enc h0 rfl
              rw [h2, List.take_length] at h3
              exact h3⟩⟩
        · have hx' : (x != 0) = true := by simpa using hx0
          subst hc0
          go_wp2_with (go_at_call 37; refine Calls.mono hC ?_; rintro e wn ⟨rfl, hRd, hgn⟩; have HY := Lib.hid (HR.out.grown hgn); clear hgn hRd hC; have hz : wn.heap[N]? = some (.cells #[.int .i64 0, .string ⟨#[]⟩, .int .i64 0, .int .i64 0, .string ⟨#[]⟩, .int .i64 0, .int .i64 0, .slice none 0 0] 29 (0, 0)) := HY.out.hN; obtain ⟨y0, y1, y2, y3, y4, y5, y6, y7⟩ := heap_cells8 hz; obtain ⟨g0, g1, g2, g3, g4, g5, g6, g7⟩ := heap_frozen8 hz)
          exact bodyPost_ret (v := .tuple #[zeroRc, .int .i64 3]) (by simp [results, Tryz.results10, go_sem, zeroRc, z8, y0, y1, y2, y3, y4, y5, y6, y7]) rfl ⟨Below.set8 HY.out.bel hBN, .inl rfl⟩
      · have hc' : (cl != 0) = true := by simpa using hc0
        go_wp2_with (go_at_call 37; refine Calls.mono hC ?_; rintro e wn ⟨rfl, hRd, hgn⟩; have HY := Lib.hid (HR.out.grown hgn); clear hgn hRd hC; have hz : wn.heap[N]? = some (.cells #[.int .i64 0, .string ⟨#[]⟩, .int .i64 0, .int .i64 0, .string ⟨#[]⟩, .int .i64 0, .int .i64 0, .slice none 0 0] 29 (0, 0)) := HY.out.hN; obtain ⟨y0, y1, y2, y3, y4, y5, y6, y7⟩ := heap_cells8 hz; obtain ⟨g0, g1, g2, g3, g4, g5, g6, g7⟩ := heap_frozen8 hz)
        exact bodyPost_ret (v := .tuple #[zeroRc, .int .i64 3]) (by simp [results, Tryz.results10, go_sem, zeroRc, z8, y0, y1, y2, y3, y4, y5, y6, y7]) rfl ⟨Below.set8 HY.out.bel hBN, .inl rfl⟩
end Go.Proofs.YtedfhallhpkkhaaGreatDoor.X
