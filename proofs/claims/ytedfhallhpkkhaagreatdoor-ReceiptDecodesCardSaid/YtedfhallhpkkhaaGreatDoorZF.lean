/- object.Decode: the walk. -/
import Derived.Test.YtedfhallhpkkhaaGreatDoorZE
set_option linter.unusedVariables false
set_option linter.unusedSimpArgs false
namespace Go.Proofs.YtedfhallhpkkhaaGreatDoor.X
open Go Go.RowKit

set_option maxRecDepth 100000 in
set_option maxHeartbeats 40000000 in
theorem dec1 (U : Value) (b1 b2 b3 : Bool) (m : Int) (wd : ByteArray) (s o t : List UInt8) (k n i i1 i2 i3 i4 i5 : Nat) (f1 f2 f3 f4 f5 chk : Int) (w : World) (hshp : Shp b1 b2 b3 m) (hg : GOk w.heap) (hs : s.length ≤ 900000)
    (h1 : Hid (rdNum s 0 0 20 = (k, i1, f1))) (h2 : optTxt b1 s i1 f1 s.length = (o, i2, f2)) (h3 : optNum b2 s i2 f2 1073741824 = (n, i3, f3)) (h4 : optNum (decide (0 ≤ m)) s i3 f3 m = (i, i4, f4)) (h5 : optTxt b3 s i4 f4 32 = (t, i5, f5))
    (NM : Value) (hNM : Hid (NM = .agg #[.int .i64 k, str o, .int .i64 n, .int .i64 i, str t])) (GOOD : Prop) (hgood : Hid (GOOD ↔ clsF s i5 f5 = 0 ∧ chk = 0)) (hc : Fact Tryz.prog 43 [NM] (.int .i64 chk))
    (hU : Fact Tryz.prog 95 [] U) (hI : ∀ W : World, (Instr.index 192 U (.int .i64 k)).run Tryz.prog W = .ok (.agg #[.string wd, .bool b1, .bool b2, .bool b3, .int .i64 m]) W) :
    Calls Tryz.prog 33 #[str s] w (DecPost GOOD NM w) := by
  have hpos := hg.pos
  have hF := hc
  have kc := conv_str s
  clear hc
  go_enter Tryz.func33, Tryz.ntmps33
  go_wp2_with (first
    | (go_at_call 32; refine (newReader_any _ _ s _ (by omega) ?_).mono ?_; rotate_left; rintro e wr ⟨R, B, c, rfl, hR, hgr, hRl, hBl⟩)
    | (go_at_call 35; refine (number_any _ _ _ _ _ _ s _ hR).mono ?_; rw [h1.out]; rintro e wq ⟨rfl, hR2, hgr2⟩))
  rotate_left
  · intro j hj
    have := cell_of_heap (j := j) (Lib.bytesWorld_at_new (w.alloc (.cells #[.int .i64 0, .string ⟨#[]⟩, .int .i64 0, .int .i64 0, .string ⟨#[]⟩] 24)) 5 ⟨s.toArray⟩)
    rw [World.size_alloc] at this
    rw [this]
    exact bytesCells_get _ 5 s j hj
  rename_i K hK
  have hNr : wr.heap[w.heap.size]? = some (.cells #[.int .i64 0, .string ⟨#[]⟩, .int .i64 0, .int .i64 0, .string ⟨#[]⟩] 24 (0, 0)) := (hgr.block _ (by rw [Lib.bytesWorld_size]; simp; omega) (by simp)).trans ((Lib.bytesWorld_at_old _ _ _ _ (by simp)).trans (heap_new w _))
  have hNq := hR.keep hgr2 hNr (by decide)
  rw [Lib.bytesWorld_size, World.size_alloc] at hRl
  have hbq : Below w.heap.size w wq := (((((Below.refl _ w).alloc (Nat.le_refl _) _).grown (grown_bytes _ 5 _) (by simp) (by simp)).grown hgr (by rw [Lib.bytesWorld_size]; simp; omega) (by simp)).grown hgr2 (Nat.le_trans (by rw [Lib.bytesWorld_size]; simp; omega) hgr.size) (fun j e => by cases e; omega))
  clear hBl hgr hgr2 hR hNr
  have hNlt : w.heap.size < wq.heap.size := (Array.getElem?_eq_some_iff.1 hNq).1
  obtain ⟨w1, hw1⟩ : ∃ w1, wq.alloc (.cells #[.int .i64 k, .string ⟨#[]⟩, .int .i64 0, .int .i64 0, .string ⟨#[]⟩] 24) = w1 := ⟨_, rfl⟩
  have hh : w1.heap[wq.heap.size]? = some (.cells #[.int .i64 k, .string ⟨#[]⟩, .int .i64 0, .int .i64 0, .string ⟨#[]⟩] 24 (0, 0)) := hw1 ▸ heap_new wq _
  have hsz1 : w1.heap.size = wq.heap.size + 1 := by rw [← hw1]; simp
  have hlt : wq.heap.size < w1.heap.size := by omega
  have hb2 : Below w.heap.size w w1 := hw1 ▸ hbq.alloc (Nat.le_of_lt hNlt) _
  have hg1 : GOk w1.heap := hg.of (hb2.block 0 hpos)
  have hra : Rd w1 R B c s i1 f1 := hw1 ▸ hR2.alloc _
  have hNw : w1.heap[w.heap.size]? = some (.cells #[.int .i64 0, .string ⟨#[]⟩, .int .i64 0, .int .i64 0, .string ⟨#[]⟩] 24 (0, 0)) := hw1 ▸ (Below.heap_alloc _ _ _ hNlt).trans hNq
  rw [hw1]
  clear hw1
  have tail : ∀ (u cp : Nat) (W : World), (∀ j, j < w1.heap.size → W.heap[j]? = w1.heap[j]?) → W.heap[u]? = some (.cells #[.string wd, .bool b1, .bool b2, .bool b3, .int .i64 m] 191) → Below w.heap.size w W →
      K ⟨#[str s, undef, .pointer (some ⟨w.heap.size, 0, none⟩), .int .i64 0, .pointer (some ⟨R, 0, none⟩), .pointer (some ⟨wq.heap.size, 0, none⟩), .pointer (some ⟨u, 0, none⟩), str s, .slice (some ⟨w.heap.size + 1, 0, none⟩) s.length cp, .pointer (some ⟨R, 0, none⟩), .pointer (some ⟨R, 0, none⟩), .int .i64 k, .agg #[.int .i64 k, .string ⟨#[]⟩, .int .i64 0, .int .i64 0, .string ⟨#[]⟩], U, .pointer (some ⟨wq.heap.size, 0, none⟩), .int .i64 k, .agg #[.string wd, .bool b1, .bool b2, .bool b3, .int .i64 m], undef, undef, undef, undef, undef, undef, undef, undef, undef, undef, undef, undef, undef, undef, undef, undef, undef, undef, undef, undef, undef, undef, undef, undef, undef, undef, undef, undef, undef, undef, undef, undef, undef, undef, undef], []⟩ W := by
    intro u cp W hkp hu hBel
    refine hK _ _ ?_
    have hS : Sit w W w.heap.size wq.heap.size u R B c s i1 f1 (.int .i64 0) (.string ⟨#[]⟩) (.int .i64 0) (.int .i64 0) (.string ⟨#[]⟩) wd b1 b2 b3 m (.int .i64 k) (.string ⟨#[]⟩) (.int .i64 0) (.int .i64 0) (.string ⟨#[]⟩) := by
      have hlt := hra.lt
      exact ⟨(hkp _ (by omega)).trans hNw, (hkp _ (by omega)).trans hh, hu, hra.kept (hkp _ hlt.1) (hkp _ hlt.2), hBel, Nat.le_of_lt hNlt, by omega, Nat.ne_of_lt hNlt⟩
    clear hkp hu hBel hNq hR2 hbq hK hI hU hRl hh hsz1 hlt hb2 hg1 hra hNw
    obtain ⟨p0, p1, p2, p3, p4⟩ := heap_cells5 hS.hM
    obtain ⟨g0, g1, g2, g3, g4⟩ := heap_frozen5 hS.hM
    obtain ⟨r0, r1, r2, r3, r4⟩ := heap_cells5 hS.hu
    have hune : u ≠ wq.heap.size := hS.ne.1
    have hune2 : wq.heap.size ≠ u := hune.symm
    obtain ⟨x, hx⟩ : ∃ x, clsF s i5 f5 = x := ⟨_, rfl⟩
    have HX := Lib.hid hx
    clear hx
    have hd : (x = 0 ∧ chk = 0 ∧ Hid GOOD) ∨ (x = 0 ∧ (chk != 0) = true ∧ Hid (¬ GOOD)) ∨ ((x != 0) = true ∧ Hid (¬ GOOD)) := by
      by_cases h0 : x = 0
      · by_cases h1 : chk = 0
        · exact .inl ⟨h0, h1, hgood.out.2 ⟨HX.out.trans h0, h1⟩⟩
        · exact .inr (.inl ⟨h0, by simpa using h1, fun h => h1 (hgood.out.1 h).2⟩)
      · exact .inr (.inr ⟨by simpa using h0, fun h => h0 (HX.out.symm.trans (hgood.out.1 h).1)⟩)
    clear hgood
    rcases hd with ⟨rfl, rfl, hyes⟩ | ⟨rfl, hcn, hno⟩ | ⟨hxn, hno⟩
    all_goals
      rcases hshp with ⟨rfl, rfl, rfl, hm⟩ | ⟨rfl, rfl, rfl, hm⟩ | ⟨rfl, rfl, rfl, hm⟩ | ⟨rfl, rfl, rfl, hm⟩ | ⟨rfl, rfl, rfl, hm⟩ | ⟨rfl, rfl, rfl, hm⟩ | ⟨rfl, rfl, rfl, hm⟩ | ⟨rfl, rfl, rfl, hm⟩ | ⟨rfl, rfl, rfl, hm⟩
    all_goals
      rw [hm] at h4
      simp only [decide_eq_true_eq, decide_eq_false_iff_not, Int.not_le] at hm
      simp only [optTxt, optNum, if_true, if_false, Bool.false_eq_true, Prod.mk.injEq] at h2 h3 h4 h5
      first | replace h2 : Hid (rdTxt _ _ _ _ = _) := Lib.hid h2 | obtain ⟨rfl, rfl, rfl⟩ := h2
      first | replace h3 : Hid (rdNum _ _ _ _ = _) := Lib.hid h3 | obtain ⟨rfl, rfl, rfl⟩ := h3
      first | replace h4 : Hid (rdNum _ _ _ _ = _) := Lib.hid h4 | obtain ⟨rfl, rfl, rfl⟩ := h4
      first | replace h5 : Hid (rdTxt _ _ _ _ = _) := Lib.hid h5 | obtain ⟨rfl, rfl, rfl⟩ := h5
      go_wp2_with (first
        | (go_at_call 34; (first | (with_reducible refine Calls.mono (hS.txt ?_ h2) ?_) | (with_reducible refine Calls.mono ((hS.set1 _).txt ?_ h2) ?_) | (with_reducible refine Calls.mono ((hS.set2 _).txt ?_ h2) ?_) | (with_reducible refine Calls.mono ((hS.set3 _).txt ?_ h2) ?_) | (with_reducible refine Calls.mono ((hS.set4 _).txt ?_ h2) ?_)); omega; rintro e wn ⟨rfl, hS'⟩; replace hS := hS'; clear hS'; clear p0 p1 p2 p3 p4 g0 g1 g2 g3 g4 r0 r1 r2 r3 r4; obtain ⟨p0, p1, p2, p3, p4⟩ := heap_cells5 hS.hM; obtain ⟨g0, g1, g2, g3, g4⟩ := heap_frozen5 hS.hM; obtain ⟨r0, r1, r2, r3, r4⟩ := heap_cells5 hS.hu)
        | (go_at_call 34; (first | (with_reducible refine Calls.mono (hS.txt ?_ h5) ?_) | (with_reducible refine Calls.mono ((hS.set1 _).txt ?_ h5) ?_) | (with_reducible refine Calls.mono ((hS.set2 _).txt ?_ h5) ?_) | (with_reducible refine Calls.mono ((hS.set3 _).txt ?_ h5) ?_) | (with_reducible refine Calls.mono ((hS.set4 _).txt ?_ h5) ?_)); omega; rintro e wn ⟨rfl, hS'⟩; replace hS := hS'; clear hS'; clear p0 p1 p2 p3 p4 g0 g1 g2 g3 g4 r0 r1 r2 r3 r4; obtain ⟨p0, p1, p2, p3, p4⟩ := heap_cells5 hS.hM; obtain ⟨g0, g1, g2, g3, g4⟩ := heap_frozen5 hS.hM; obtain ⟨r0, r1, r2, r3, r4⟩ := heap_cells5 hS.hu)
        | (go_at_call 35; (first | (with_reducible refine Calls.mono (hS.num h3) ?_) | (with_reducible refine Calls.mono ((hS.set1 _).num h3) ?_) | (with_reducible refine Calls.mono ((hS.set2 _).num h3) ?_) | (with_reducible refine Calls.mono ((hS.set3 _).num h3) ?_) | (with_reducible refine Calls.mono ((hS.set4 _).num h3) ?_)); rintro e wn ⟨rfl, hS'⟩; replace hS := hS'; clear hS'; clear p0 p1 p2 p3 p4 g0 g1 g2 g3 g4 r0 r1 r2 r3 r4; obtain ⟨p0, p1, p2, p3, p4⟩ := heap_cells5 hS.hM; obtain ⟨g0, g1, g2, g3, g4⟩ := heap_frozen5 hS.hM; obtain ⟨r0, r1, r2, r3, r4⟩ := heap_cells5 hS.hu)
        | (go_at_call 35; (first | (with_reducible refine Calls.mono (hS.num h4) ?_) | (with_reducible refine Calls.mono ((hS.set1 _).num h4) ?_) | (with_reducible refine Calls.mono ((hS.set2 _).num h4) ?_) | (with_reducible refine Calls.mono ((hS.set3 _).num h4) ?_) | (with_reducible refine Calls.mono ((hS.set4 _).num h4) ?_)); rintro e wn ⟨rfl, hS'⟩; replace hS := hS'; clear hS'; clear p0 p1 p2 p3 p4 g0 g1 g2 g3 g4 r0 r1 r2 r3 r4; obtain ⟨p0, p1, p2, p3, p4⟩ := heap_cells5 hS.hM; obtain ⟨g0, g1, g2, g3, g4⟩ := heap_frozen5 hS.hM; obtain ⟨r0, r1, r2, r3, r4⟩ := heap_cells5 hS.hu)
        | (go_at_call 37; (first | (with_reducible refine Calls.mono (hS.cls HX) ?_) | (with_reducible refine Calls.mono ((hS.set1 _).cls HX) ?_) | (with_reducible refine Calls.mono ((hS.set2 _).cls HX) ?_) | (with_reducible refine Calls.mono ((hS.set3 _).cls HX) ?_) | (with_reducible refine Calls.mono ((hS.set4 _).cls HX) ?_)); rintro e wn ⟨rfl, hS'⟩; replace hS := hS'; clear hS'; clear p0 p1 p2 p3 p4 g0 g1 g2 g3 g4 r0 r1 r2 r3 r4; obtain ⟨p0, p1, p2, p3, p4⟩ := heap_cells5 hS.hM; obtain ⟨g0, g1, g2, g3, g4⟩ := heap_frozen5 hS.hN; obtain ⟨r0, r1, r2, r3, r4⟩ := heap_cells5 hS.hN)
        | (go_at_call 43; refine Calls.mono (hS.check hg (by have hF2 := hF; rw [hNM.out] at hF2; exact hF2)) ?_; rintro e wn ⟨rfl, hS'⟩; replace hS := hS'; clear hS'; clear p0 p1 p2 p3 p4 g0 g1 g2 g3 g4 r0 r1 r2 r3 r4; obtain ⟨p0, p1, p2, p3, p4⟩ := heap_cells5 hS.hM; obtain ⟨g0, g1, g2, g3, g4⟩ := heap_frozen5 hS.hN; obtain ⟨r0, r1, r2, r3, r4⟩ := heap_cells5 hS.hN))
      first
        | exact bodyPost_ret (v := .tuple #[NM, .int .i64 0]) (by rw [hNM.out]; simp [results, Tryz.results33, go_sem, r0, r1, r2, r3, r4]) rfl ⟨fun _ => rfl, fun h => absurd hyes.out h, Below.set5 hS.bel (Nat.le_refl _)⟩
        | exact bodyPost_ret (v := .tuple #[zeroNm, .int .i64 3]) (by simp [results, Tryz.results33, go_sem, zeroNm, r0, r1, r2, r3, r4]) rfl ⟨fun h => absurd h hno.out, fun _ => rfl, Below.set5 hS.bel (Nat.le_refl _)⟩
  obtain ⟨p0, p1, p2, p3, p4⟩ := heap_cells5 hh
  have hwl : w.heap.size ≤ w1.heap.size := by omega
  clear hsz1 hRl hbq hR2 hNq h2 h3 h4 h5 hgood kc
  go_region_with (go_at_call 95; refine (hU _ (by first | exact hg1 | exact hg1.of (Below.heap_alloc _ _ 0 hg1.pos))).mono ?_; rintro e w2 ⟨rfl, hb⟩; have hkp2 : ∀ j, j < w1.heap.size → w2.heap[j]? = w1.heap[j]? := (by first | exact fun j hj => hb.block j hj | exact fun j hj => (hb.block j (Nat.lt_trans hj (by simp))).trans (Below.heap_alloc _ _ _ hj)); have HK := Lib.hid hkp2; clear hkp2; have hbW : Below w.heap.size w w2 := (by first | exact hb2.drew.trans (hb.mono hwl) | exact (hb2.drew.alloc hwl _).trans (hb.mono (by simp; omega))); have hh2 := (HK.out _ hlt).trans hh; obtain ⟨q0, q1, q2, q3, q4⟩ := heap_cells5 hh2; have hlt2 : w1.heap.size ≤ w2.heap.size := Nat.le_trans (by simp) hb.size; have hlt4 : wq.heap.size < w2.heap.size := Nat.lt_of_lt_of_le hlt hlt2; try (have hh3 := (hb.block w1.heap.size (by simp)).trans (heap_new w1 _); obtain ⟨x0, x1, x2, x3, x4⟩ := heap_cells5 hh3; obtain ⟨f0, f1, f2, f3, f4⟩ := heap_frozen5 hh3; have hlt3 : w1.heap.size < w2.heap.size := Nat.lt_of_lt_of_le (by simp) hb.size))
  all_goals show K _ _
  all_goals refine tail _ _ _ ?_ ?_ ?_
  all_goals first
    | with_reducible exact heap_new _ _
    | with_reducible exact heap_setcells5 hh3
    | with_reducible exact fun j hj => (Below.heap_alloc _ _ _ (Nat.lt_of_lt_of_le hj hlt2)).trans (HK.out j hj)
    | with_reducible exact fun j hj => (heap_setother5 (Nat.ne_of_lt hj)).trans (HK.out j hj)
    | with_reducible exact hbW.alloc (Nat.le_trans hwl hlt2) _
    | with_reducible exact Below.set5 hbW hwl
end Go.Proofs.YtedfhallhpkkhaaGreatDoor.X
