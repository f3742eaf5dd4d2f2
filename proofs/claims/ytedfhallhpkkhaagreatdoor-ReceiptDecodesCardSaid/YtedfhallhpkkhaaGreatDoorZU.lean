/- replevinlaw55.ReceiptDecodes returns true, whatever the string. -/
import Derived.Test.YtedfhallhpkkhaaGreatDoorZT
import Derived.Test.YtedfhallhpkkhaaGreatDoorXC
set_option linter.unusedVariables false
set_option linter.unusedSimpArgs false
namespace Go.Proofs.YtedfhallhpkkhaaGreatDoor.X
open Go Go.RowKit

theorem equal_zero : Fact Tryz.prog 12 [zeroRc, zeroRc] (.bool true) := fact_of_run (n := 3000) (noFacts _) (by rfl) (by rfl) (by kernel_rfl)
def cut400 (s : ByteArray) : ByteArray := s.extract 0 (min (s.size : Int) 400).toNat
theorem cut400_len (s : ByteArray) : (cut400 s).data.toList.length ≤ 400 := by
  have : (cut400 s).size ≤ 400 := by
    unfold cut400
    rw [ByteArray.size_extract]
    omega
  rw [Array.length_toList]
  exact this
theorem str_of (x : ByteArray) : str x.data.toList = .string x := by
  cases x
  rfl
theorem ActsAt.below {w w' : World} {base n : Nat} {v : Value} {l : List (AcP × Value)} (h : ActsAt w base n v l) (b : Below w.heap.size w w') : ActsAt w' base n v l :=
  h.same fun j cs t fz hj _ => b.block j (Array.getElem?_eq_some_iff.1 hj).1
theorem ActsAt.alloc {w : World} {base n : Nat} {v : Value} {l : List (AcP × Value)} (h : ActsAt w base n v l) (o : Obj) : ActsAt (w.alloc o) base n v l :=
  h.same fun j cs t fz hj _ => Below.heap_alloc _ _ _ (Array.getElem?_eq_some_iff.1 hj).1
theorem gok_below {w w' : World} (hg : GOk w.heap) (b : Below w.heap.size w w') : GOk w'.heap := hg.of (b.block 0 hg.pos)
set_option maxRecDepth 100000 in
set_option maxHeartbeats 4000000 in
theorem decodes_any (s : ByteArray) (hs : s.size ≤ 9223372036854775807) (w : World) (hg : GOk w.heap) : Calls Tryz.prog 3 #[.string s] w fun e w' => e = .returned (.bool true) ∧ Below w.heap.size w w' := by
  have hD := decode_any (cut400 s).data.toList w hg (cut400_len s)
  rw [str_of] at hD
  go_enter Tryz.func3, Tryz.ntmps3
  go_wp2_with fail
  obtain ⟨x, hx⟩ : ∃ x, cut400 s = x := ⟨_, rfl⟩
  have hx400 := cut400_len s
  rw [show s.extract 0 (min (s.size : Int) 400).toNat = x from hx]
  rw [hx] at hD hx400
  have hxs := str_of x
  clear hx
  refine hD.mono ?_
  rintro e w1 ⟨hb, rfl | ⟨h, v, l, rfl, hok, hl, ha, hao, hse⟩⟩
  · have hg1 := gok_below hg hb
    have hg2 : GOk (w1.alloc (.cells z8 29)).heap := hg1.of (Below.heap_alloc w1 _ 0 hg1.pos)
    have hnew := heap_new w1 (.cells z8 29)
    clear hD hxs
    unfold zeroRc z8
    go_wp2_with (first
      | (go_at_call 11; refine (known_fact _ hg2).mono ?_; rintro e w2 ⟨rfl, hb2⟩; have hn2 := (hb2.block _ (by simp)).trans hnew; have hg3 := gok_below hg2 hb2; clear hnew; obtain ⟨p0, p1, p2, p3, p4, p5, p6, p7⟩ := heap_cells8 hn2)
      | (go_at_call 12; refine (equal_zero _ hg3).mono ?_; rintro e w3 ⟨rfl, hb3⟩))
    go_ret
    have hsz2 := hb2.size
    simp at hsz2
    exact ⟨rfl, ((hb.alloc hb.size _).trans (hb2.mono (by rw [World.size_alloc]; exact Nat.le_succ_of_le hb.size))).trans (hb3.mono (by have := hb.size; omega))⟩
  · obtain ⟨ov, cv, rfl⟩ := ownsRow_slice ha.1
    have hg1 := gok_below hg hb
    have hg2 : GOk (w1.alloc (.cells (h.cells (.slice ov l.length cv)) 29)).heap := hg1.of (Below.heap_alloc w1 _ 0 hg1.pos)
    have hnew := heap_new w1 (.cells (h.cells (.slice ov l.length cv)) 29)
    have ha2 := ha.alloc (.cells (h.cells (.slice ov l.length cv)) 29)
    have htot : (encRc h (l.map (·.1))).length ≤ 400 := by rw [← hse]; exact hx400
    have hstr : str (encRc h (l.map (·.1))) = .string x := by rw [← hse]
    have hsz1 := hb.size
    clear hD hxs hse hx400
    unfold Hdr.cells at hg2 hnew ha2 ⊢
    go_wp2_with (first
      | (go_at_call 11; refine (known_fact _ hg2).mono ?_; rintro e w2 ⟨rfl, hb2⟩; have hn2 := (hb2.block _ (by simp)).trans hnew; have hg3 := gok_below hg2 hb2; have ha3 := ha2.below hb2; have hsz2 := hb2.size; clear hnew; obtain ⟨p0, p1, p2, p3, p4, p5, p6, p7⟩ := heap_cells8 hn2)
      | (go_at_call 13; refine (right_any h _ l _ _ hg3 hok hl ha3 hao).mono ?_; rintro e w3 ⟨rfl, hb3⟩; have hn3 := (hb3.block w1.heap.size (Array.getElem?_eq_some_iff.1 hn2).1).trans hn2; have hg4 := gok_below hg3 hb3; have ha4 := ha3.below hb3; have hsz3 := hb3.size; clear p0 p1 p2 p3 p4 p5 p6 p7; obtain ⟨p0, p1, p2, p3, p4, p5, p6, p7⟩ := heap_cells8 hn3)
      | (go_at_call 14; refine (encode_any h _ l _ _ hg4 hok hl ha4 hao htot).mono ?_; rw [hstr]; rintro e w4 ⟨rfl, hb4⟩))
    go_ret
    simp at hsz2
    exact ⟨rfl, (((hb.alloc hb.size _).trans (hb2.mono (by rw [World.size_alloc]; omega))).trans (hb3.mono (by omega))).trans (hb4.mono (by omega))⟩
end Go.Proofs.YtedfhallhpkkhaaGreatDoor.X
