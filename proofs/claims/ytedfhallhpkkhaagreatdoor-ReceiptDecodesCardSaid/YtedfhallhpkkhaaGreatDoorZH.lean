/- receipt.Decode: the walk. -/
import Derived.Test.YtedfhallhpkkhaaGreatDoorZP
set_option linter.unusedVariables false
set_option linter.unusedSimpArgs false
namespace Go.Proofs.YtedfhallhpkkhaaGreatDoor.X
open Go Go.RowKit

set_option maxRecDepth 100000 in
set_option maxHeartbeats 40000000 in
theorem rdec1 (s nt o t : List UInt8) (k n i at' len i1 i2 i3 i4 cnt : Nat) (f1 f2 f3 f4 wr0 : Int) (w : World) (hg : GOk w.heap) (hs : s.length ≤ 400) (h1 : Hid (rdTxt s 0 0 65536 = (nt, i1, f1)))
   (hNn : ∀ W : World, GOk W.heap → Calls Tryz.prog 33 #[str nt] W fun e w' => e = .returned (.tuple #[.agg #[.int .i64 k, str o, .int .i64 n, .int .i64 i, str t], .int .i64 wr0]) ∧ Below W.heap.size W w')
   (h2 : Hid (rdNum s i1 f1 9223372036854775807 = (at', i2, f2))) (h3 : Hid (rdNum s i2 f2 9223372036854775807 = (len, i3, f3))) (h4 : Hid (rdNum s i3 f3 4096 = (cnt, i4, f4))) :
    Calls Tryz.prog 10 #[str s] w (RdPost w w.heap.size s ⟨k, o, n, i, t, at', len⟩ wr0 ([] ++ encT nt ++ encN at' ++ encN len ++ encN cnt) cnt) := by
  have hpos := hg.pos
  have kc := conv_str s
  go_enter Tryz.func10, Tryz.ntmps10
  go_wp2_with (first
    | (go_at_call 32; refine (newReader_any _ _ s _ (by omega) ?_).mono ?_; rotate_left; rintro e wr ⟨R, B, c, rfl, hR, hgr, hRl, hBl⟩)
    | (go_at_call 34; refine (text_any _ _ _ _ _ _ s _ (by omega) hR).mono ?_; rw [h1.out]; rintro e wq ⟨rfl, hR2, hgr2⟩)
    | (go_at_call 33; refine (hNn _ ?_).mono ?_; rotate_left; rintro e wz ⟨rfl, hbz⟩))
  rotate_left
  · exact hg.of ((((((Below.refl _ w).alloc (Nat.le_refl _) _).grown (grown_bytes _ 5 _) (by simp) (by simp)).grown hgr (by rw [Lib.bytesWorld_size]; simp; omega) (by simp)).grown hgr2 (Nat.le_trans (by rw [Lib.bytesWorld_size]; simp; omega) hgr.size) (fun j e => by cases e; rw [Lib.bytesWorld_size, World.size_alloc] at hRl; omega)).block 0 hpos)
  · intro j hj
    have := cell_of_heap (j := j) (Lib.bytesWorld_at_new (w.alloc (.cells #[.int .i64 0, .string ⟨#[]⟩, .int .i64 0, .int .i64 0, .string ⟨#[]⟩, .int .i64 0, .int .i64 0, .slice none 0 0] 29)) 5 ⟨s.toArray⟩)
    rw [World.size_alloc] at this
    rw [this]
    exact bytesCells_get _ 5 s j hj
  rename_i K hK
  rw [Lib.bytesWorld_size, World.size_alloc] at hRl
  have hNr : wr.heap[w.heap.size]? = some (.cells #[.int .i64 0, .string ⟨#[]⟩, .int .i64 0, .int .i64 0, .string ⟨#[]⟩, .int .i64 0, .int .i64 0, .slice none 0 0] 29 (0, 0)) := (hgr.block _ (by rw [Lib.bytesWorld_size]; simp; omega) (by simp)).trans ((Lib.bytesWorld_at_old _ _ _ _ (by simp)).trans (heap_new w _))
  have hNq := hR.keep hgr2 hNr (by decide)
  have hbq : Below w.heap.size w wq := (((((Below.refl _ w).alloc (Nat.le_refl _) _).grown (grown_bytes _ 5 _) (by simp) (by simp)).grown hgr (by rw [Lib.bytesWorld_size]; simp; omega) (by simp)).grown hgr2 (Nat.le_trans (by rw [Lib.bytesWorld_size]; simp; omega) hgr.size) (fun j e => by cases e; omega))
  have hNlt : w.heap.size < wq.heap.size := (Array.getElem?_eq_some_iff.1 hNq).1
  have hNz := (hbz.block _ hNlt).trans hNq
  have hRz : Rd wz R B c s i1 f1 := hR2.kept (hbz.block _ hR2.lt.1) (hbz.block _ hR2.lt.2)
  have hbW : Below w.heap.size w wz := hbq.trans (hbz.mono (Nat.le_of_lt hNlt))
  have hlt5 : w.heap.size < wz.heap.size := Nat.lt_of_lt_of_le hNlt hbz.size
  clear hBl hgr hgr2 hR hNr hR2 hNq hbq hbz
  obtain ⟨b5, hb5⟩ : ∃ b, wz.heap.size = b := ⟨_, rfl⟩
  have hH : Hd w (wz.alloc (.cells #[.int .i64 k, str o, .int .i64 n, .int .i64 i, str t] 24)) w.heap.size b5 R B c s i1 f1 #[.int .i64 0, .string ⟨#[]⟩, .int .i64 0, .int .i64 0, .string ⟨#[]⟩, .int .i64 0, .int .i64 0, .slice none 0 0] #[.int .i64 k, str o, .int .i64 n, .int .i64 i, str t] :=
    ⟨(Below.heap_alloc _ _ _ hlt5).trans hNz, hb5 ▸ heap_new wz _, hRz.alloc _, hbW.alloc (Nat.le_of_lt hlt5) _, by omega⟩
  obtain ⟨w1, hw1⟩ : ∃ w1, wz.alloc (.cells #[.int .i64 k, str o, .int .i64 n, .int .i64 i, str t] 24) = w1 := ⟨_, rfl⟩
  rw [hw1] at hH ⊢
  have hNw : w.heap.size < w1.heap.size := (Array.getElem?_eq_some_iff.1 hH.hN).1
  have h5w : b5 < w1.heap.size := (Array.getElem?_eq_some_iff.1 hH.h5).1
  rw [hb5]
  clear hw1 hNz hRz hbW hlt5 hb5 hNlt kc hNn hpos
  have tail : ∀ (M cp : Nat) (W : World), Hd w W w.heap.size b5 R B c s i3 f3 #[.int .i64 0, .string ⟨#[]⟩, .int .i64 0, .int .i64 0, .string ⟨#[]⟩, .int .i64 0, .int .i64 0, .slice none 0 0] #[.int .i64 k, str o, .int .i64 n, .int .i64 i, str t] → W.heap[M]? = some (.cells #[.int .i64 k, str o, .int .i64 n, .int .i64 i, str t, .int .i64 at', .int .i64 len, .slice none 0 0] 29 (0, 0)) → w.heap.size < M →
      K ⟨#[str s, undef, .pointer (some ⟨w.heap.size, 0, none⟩), .int .i64 0, .pointer (some ⟨R, 0, none⟩), .pointer (some ⟨b5, 0, none⟩), .int .i64 wr0, .pointer (some ⟨M, 0, none⟩), undef, undef, undef, undef, str s, .slice (some ⟨w.heap.size + 1, 0, none⟩) s.length cp, .pointer (some ⟨R, 0, none⟩), .tuple #[.agg #[.int .i64 k, str o, .int .i64 n, .int .i64 i, str t], .int .i64 wr0], .pointer (some ⟨R, 0, none⟩), str nt, .tuple #[.agg #[.int .i64 k, str o, .int .i64 n, .int .i64 i, str t], .int .i64 wr0], .agg #[.int .i64 k, str o, .int .i64 n, .int .i64 i, str t], .int .i64 wr0, .agg #[.int .i64 k, str o, .int .i64 n, .int .i64 i, str t], .pointer (some ⟨R, 0, none⟩), .int .i64 at', .agg #[.int .i64 k, str o, .int .i64 n, .int .i64 i, str t, .int .i64 at'], .pointer (some ⟨R, 0, none⟩), .int .i64 len, .agg #[.int .i64 k, str o, .int .i64 n, .int .i64 i, str t, .int .i64 at', .int .i64 len, .slice none 0 0], undef, undef, undef, undef, undef, undef, undef, undef, undef, undef, undef, undef, undef, undef, undef, undef, undef, undef, undef, undef, undef, undef, undef, undef, undef, undef, undef, undef, undef, undef, undef, undef, undef, undef, undef, undef, undef, undef, undef, undef, undef, undef, undef, undef, undef, undef, undef, undef, undef, undef, undef], []⟩ W := by
    intro M cp W hX hM hlt
    refine hK _ _ ?_
    have hcn := rdNum_le s i3 f3 4096 (by decide)
    rw [h4.out] at hcn
    have henc : St2 s i4 f4 wr0 ([] ++ encT nt ++ encN at' ++ encN len ++ encN cnt) := ((((St2.of (St.start s)).txt h1).num h2).num h3).num h4
    exact rd_tail s R B c w.heap.size M i3 i4 w.heap.size cnt f3 f4 wr0 ⟨k, o, n, i, t, at', len⟩ w W _ _ _ _ _ _ _ _ _ _ _ _ _ _ _ _ _ _ _ _ _ _ _ _ _ _ _ _ _ _ _ _ _ _ _ _ _ _ _ _ _ _ _ _ _ _ _ _ _ _ _ _ _ _ _ _ _ _ _ _ _ _ _ _ _ _ _ _ _ _ _ _ _ _  hs hX.rd hX.hN hM hX.bel hX.bel.size hX.rlow (Nat.le_of_lt hlt) (Nat.le_refl _) (Nat.ne_of_lt hlt) h4 (by simp only at hcn; omega) _ henc
  obtain ⟨p0, p1, p2, p3, p4⟩ := heap_cells5 hH.h5
  obtain ⟨hRw, hBw⟩ := hH.rd.lt
  have hrl := hH.rlow
  go_region_with (first
    | (go_at_call 35; (first | (with_reducible refine Calls.mono (hH.drew.num h2) ?_) | (with_reducible refine Calls.mono ((hH.alloc _).drew.num h2) ?_)); rintro e wa ⟨rfl, hH2, hga, hk29⟩; have hsz2 : w1.heap.size ≤ wa.heap.size := Nat.le_trans (by simp) hga.size; obtain ⟨p0, p1, p2, p3, p4⟩ := heap_cells5 hH2.h5; have hlt5 : b5 < wa.heap.size := (Array.getElem?_eq_some_iff.1 hH2.h5).1; try (have hA := hk29 _ _ _ (heap_new _ _); obtain ⟨x0, x1, x2, x3, x4, x5, x6, x7⟩ := heap_cells8 hA; obtain ⟨g0, g1, g2, g3, g4, g5, g6, g7⟩ := heap_frozen8 hA))
    | (go_at_call 35; (first | (with_reducible refine Calls.mono (hH2.num h3) ?_) | (with_reducible refine Calls.mono ((hH2.alloc _).num h3) ?_)); rintro e wa ⟨rfl, hH3, hga, hk29⟩; have hsz3 : w1.heap.size ≤ wa.heap.size := Nat.le_trans (Nat.le_trans hsz2 (by simp)) hga.size; obtain ⟨p0, p1, p2, p3, p4⟩ := heap_cells5 hH3.h5; have hlt6 : b5 < wa.heap.size := (Array.getElem?_eq_some_iff.1 hH3.h5).1; first | (have hB := hk29 _ _ _ (heap_new _ _); obtain ⟨x0, x1, x2, x3, x4, x5, x6, x7⟩ := heap_cells8 hB; obtain ⟨g0, g1, g2, g3, g4, g5, g6, g7⟩ := heap_frozen8 hB) | (have hB := hk29 _ _ _ hA; clear x0 x1 x2 x3 x4 x5 x6 x7 g0 g1 g2 g3 g4 g5 g6 g7; obtain ⟨x0, x1, x2, x3, x4, x5, x6, x7⟩ := heap_cells8 hB; obtain ⟨g0, g1, g2, g3, g4, g5, g6, g7⟩ := heap_frozen8 hB) | skip))
  all_goals show K _ _
  all_goals refine tail _ _ _ ?_ ?_ ?_
  all_goals first
    | with_reducible exact hH3.alloc _
    | with_reducible exact heap_new _ _
    | with_reducible exact heap_setcells8 hB
    | ((with_reducible refine Hd.set8 hH3 ?_ ?_ ?_ ?_ ?_) <;> omega)
    | omega
end Go.Proofs.YtedfhallhpkkhaaGreatDoor.X
