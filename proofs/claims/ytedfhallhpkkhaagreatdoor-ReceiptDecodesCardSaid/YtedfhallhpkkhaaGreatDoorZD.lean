/- object.Name.Encode. -/
import Derived.Test.YtedfhallhpkkhaaGreatDoorZC
import Derived.Deep.RegionWith
import Derived.Lib.Hide
set_option linter.unusedVariables false
set_option linter.unusedSimpArgs false
namespace Go.Proofs.YtedfhallhpkkhaaGreatDoor.X
open Go Go.RowKit

/-- What Encode gives, by what a kind uses. -/
def encBy (b1 b2 b3 : Bool) (m : Int) (k n i : Nat) (o t : List UInt8) : List UInt8 := encN k ++ (if b1 then encT o else []) ++ (if b2 then encN n else []) ++ (if decide (0 ≤ m) then encN i else []) ++ (if b3 then encT t else [])
theorem encN_ne (n : Nat) : encN n ≠ [] := by
  by_cases h : n < 128
  · rw [encN_lt h]; simp
  · rw [encN_ge h]; simp
theorem wbytes_as (base W : Nat) (o : Option Addr) (c : Nat) (bs L : List UInt8) (w : World) (hw : Wr base w W o c bs) (hL : bs = L) (hlen : bs.length ≤ 1000000) (hne : bs ≠ []) :
    Calls Tryz.prog 48 #[.pointer (some ⟨W, 0, none⟩)] w fun e w' => ∃ g c, e = .returned (.tuple #[.slice (some ⟨g, 0, none⟩) L.length c, .int .i64 0]) ∧ (∀ j, j < L.length → w'.cell? ⟨g, j, none⟩ = some (.int .u8 (L[j]?.getD 0).toNat)) ∧ w.grownBy w' none := by
  subst hL
  exact wbytes_any base W o c bs w hw hlen hne
set_option maxRecDepth 100000 in
set_option maxHeartbeats 40000000 in
theorem enc1 (U : Value) (b1 b2 b3 : Bool) (m : Int) (wd : ByteArray) (k n i : Nat) (o t : List UInt8) (w : World) (hshp : Shp b1 b2 b3 m) (hg : GOk w.heap) (hc : Fact Tryz.prog 43 [.agg #[.int .i64 k, str o, .int .i64 n, .int .i64 i, str t]] (.int .i64 0))
    (hk : k < 2 ^ 63) (hn : n < 2 ^ 63) (hi : i < 2 ^ 63) (ho : o.length ≤ 70000) (ht : t.length ≤ 70000)
    (hU : Fact Tryz.prog 95 [] U) (hI : ∀ W : World, (Instr.index 192 U (.int .i64 k)).run Tryz.prog W = .ok (.agg #[.string wd, .bool b1, .bool b2, .bool b3, .int .i64 m]) W) :
    Calls Tryz.prog 45 #[.agg #[.int .i64 k, str o, .int .i64 n, .int .i64 i, str t]] w fun e w' => e = .returned (.tuple #[str (encBy b1 b2 b3 m k n i o t), .int .i64 0]) ∧ Below w.heap.size w w' := by
  have hpos := hg.pos
  have hF := hc
  clear hc
  go_enter Tryz.func45, Tryz.ntmps45
  go_wp2_with (go_at_call 43; refine (hF _ ?_).mono ?_; rotate_left; rintro e w1 ⟨rfl, hb⟩; have hsz := hb.size; obtain ⟨p0, p1, p2, p3, p4⟩ := heap_cells5 ((hb.block w.heap.size (by simp)).trans (heap_new w _)))
  rotate_left
  · exact hg.of (Below.heap_alloc w _ 0 hpos)
  simp only [World.size_alloc] at hsz
  have hb2 : Below w.heap.size w w1 := ((Below.refl _ w).alloc (Nat.le_refl _) _).trans (hb.mono (by simp))
  have hh := (hb.block w.heap.size (by simp)).trans (heap_new w _)
  have hg1 : GOk w1.heap := hg.of (hb2.block 0 hpos)
  clear hb
  have hlt : w.heap.size < w1.heap.size := by omega
  rename_i K hK
  have tail : ∀ (u : Nat) (W : World), W.heap[w.heap.size]? = some (.cells #[.int .i64 k, str o, .int .i64 n, .int .i64 i, str t] 24) → W.heap[u]? = some (.cells #[.string wd, .bool b1, .bool b2, .bool b3, .int .i64 m] 191) → Below w.heap.size w W →
      K ⟨#[.agg #[.int .i64 k, str o, .int .i64 n, .int .i64 i, str t], .pointer (some ⟨w.heap.size, 0, none⟩), .string ⟨#[]⟩, .int .i64 0, .int .i64 0, .pointer (some ⟨u, 0, none⟩), undef, undef, undef, .agg #[.int .i64 k, str o, .int .i64 n, .int .i64 i, str t], .int .i64 0, .int .i64 0, .bool false, undef, U, .pointer (some ⟨w.heap.size, 0, none⟩), .int .i64 k, .agg #[.string wd, .bool b1, .bool b2, .bool b3, .int .i64 m], undef, undef, undef, undef, undef, undef, undef, undef, undef, undef, undef, undef, undef, undef, undef, undef, undef, undef, undef, undef, undef, undef, undef, undef, undef, undef, undef, undef, undef, undef, undef, undef, undef, undef, undef, undef, undef, undef], []⟩ W := by
    intro u W hN hB hBel
    refine hK _ _ ?_
    clear hK hh p0 p1 p2 p3 p4 hlt hsz hI hU hF hb2 hg1
    have ek := encN_len k (by omega)
    have en := encN_len n (by omega)
    have ei := encN_len i (by omega)
    have eo := encN_len o.length (by omega)
    have et := encN_len t.length (by omega)
    have hWN : w.heap.size < W.heap.size := (Array.getElem?_eq_some_iff.1 hN).1
    obtain ⟨p0, p1, p2, p3, p4⟩ := heap_cells5 hN
    obtain ⟨r0, r1, r2, r3, r4⟩ := heap_cells5 hB
    obtain ⟨L, hL⟩ : ∃ L, encBy b1 b2 b3 m k n i o t = L := ⟨_, rfl⟩
    have HL := Lib.hid hL
    clear hL
    rcases hshp with ⟨rfl, rfl, rfl, hm⟩ | ⟨rfl, rfl, rfl, hm⟩ | ⟨rfl, rfl, rfl, hm⟩ | ⟨rfl, rfl, rfl, hm⟩ | ⟨rfl, rfl, rfl, hm⟩ | ⟨rfl, rfl, rfl, hm⟩ | ⟨rfl, rfl, rfl, hm⟩ | ⟨rfl, rfl, rfl, hm⟩ | ⟨rfl, rfl, rfl, hm⟩
    all_goals
      have HM := Lib.hid hm
      simp only [decide_eq_true_eq, decide_eq_false_iff_not, Int.not_le] at hm
      go_wp2_with (first
        | (go_at_call 44; refine (newWriter_any _).mono ?_; rintro e wn ⟨rfl, hWr, hgr⟩; replace hN := (hgr.block _ (Array.getElem?_eq_some_iff.1 hN).1 (by simp)).trans hN; replace hB := (hgr.block _ (Array.getElem?_eq_some_iff.1 hB).1 (by simp)).trans hB; have hBas := hgr.size; have hBl : Below W.heap.size W wn := (Below.refl _ _).grown hgr (Nat.le_refl _) (by simp); clear p0 p1 p2 p3 p4 r0 r1 r2 r3 r4; obtain ⟨p0, p1, p2, p3, p4⟩ := heap_cells5 hN; obtain ⟨r0, r1, r2, r3, r4⟩ := heap_cells5 hB)
        | (go_at_call 47; refine (wnum_any _ _ _ _ _ _ _ hWr (by omega) (by simp only [List.length_append, List.length_nil, encT]; omega) hBas).mono ?_; rintro e wn ⟨rfl, oo, cc, hWr', hkt, hbl⟩; replace hWr := hWr'; replace hN := hkt _ _ _ _ hN (by decide) (by decide); replace hB := hkt _ _ _ _ hB (by decide) (by decide); replace hBas := Nat.le_trans hBas hbl.size; replace hBl := hBl.trans hbl; clear p0 p1 p2 p3 p4 r0 r1 r2 r3 r4; obtain ⟨p0, p1, p2, p3, p4⟩ := heap_cells5 hN; obtain ⟨r0, r1, r2, r3, r4⟩ := heap_cells5 hB)
        | (go_at_call 46; refine (wtxt_any _ _ _ _ _ _ _ hWr (by simp only [List.length_append, List.length_nil, encT]; omega) hBas).mono ?_; rintro e wn ⟨rfl, oo, cc, hWr', hkt, hbl⟩; replace hWr := hWr'; replace hN := hkt _ _ _ _ hN (by decide) (by decide); replace hB := hkt _ _ _ _ hB (by decide) (by decide); replace hBas := Nat.le_trans hBas hbl.size; replace hBl := hBl.trans hbl; clear p0 p1 p2 p3 p4 r0 r1 r2 r3 r4; obtain ⟨p0, p1, p2, p3, p4⟩ := heap_cells5 hN; obtain ⟨r0, r1, r2, r3, r4⟩ := heap_cells5 hB)
        | (go_at_call 48; refine (wbytes_as _ _ _ _ _ L _ hWr (by rw [← HL.out]; simp only [encBy, HM.out]; simp) (by simp only [List.length_append, List.length_nil, encT]; omega) (by simp [encN_ne])).mono ?_; rintro e wn ⟨gg, cc, rfl, hcc, hgr⟩; have kc := conv_bytes _ _ cc _ hcc; replace hBl := hBl.grown hgr hBas (by simp)))
      go_ret2
      refine ⟨?_, hBel.trans (hBl.mono (Nat.le_of_lt hWN))⟩
      show Ending.returned (.tuple #[str L, .int .i64 0]) = _
      rw [← HL.out]
  go_region_with (go_at_call 95; refine (hU _ (by first | exact hg1 | exact hg1.of (Below.heap_alloc _ _ 0 hg1.pos))).mono ?_; rintro e w2 ⟨rfl, hb⟩; have hbW : Below w.heap.size w w2 := (by first | exact hb2.drew.trans (hb.mono (Nat.le_of_lt hlt)) | exact (hb2.drew.alloc (Nat.le_of_lt hlt) _).trans (hb.mono (by simp; omega))); have hh2 := (hb.block w.heap.size (by first | exact hlt | exact Nat.lt_trans hlt (by simp))).trans (by first | exact hh | exact (Below.heap_alloc _ _ _ hlt).trans hh); obtain ⟨q0, q1, q2, q3, q4⟩ := heap_cells5 hh2; have hlt2 : w.heap.size < w2.heap.size := Nat.lt_of_lt_of_le hlt (Nat.le_trans (by simp) hb.size); try (have hh3 := (hb.block w1.heap.size (by simp)).trans (heap_new w1 _); obtain ⟨x0, x1, x2, x3, x4⟩ := heap_cells5 hh3; obtain ⟨f0, f1, f2, f3, f4⟩ := heap_frozen5 hh3; have hlt3 : w1.heap.size < w2.heap.size := Nat.lt_of_lt_of_le (by simp) hb.size))
  all_goals show K _ _
  all_goals refine tail _ _ ?_ ?_ ?_
  all_goals first
    | with_reducible exact heap_new _ _
    | with_reducible exact (Below.heap_alloc _ _ _ hlt2).trans hh2
    | with_reducible exact (heap_setother5 (Nat.ne_of_lt hlt)).trans hh2
    | with_reducible exact heap_setcells5 hh3
    | with_reducible exact hbW.alloc (Nat.le_of_lt hlt2) _
    | with_reducible exact Below.set5 hbW (Nat.le_of_lt hlt)
end Go.Proofs.YtedfhallhpkkhaaGreatDoor.X
