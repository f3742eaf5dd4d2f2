/- replevinlaw55.right: true of a receipt that was decoded. -/
import Derived.Test.YtedfhallhpkkhaaGreatDoorZQ
set_option linter.unusedVariables false
set_option linter.unusedSimpArgs false
namespace Go.Proofs.YtedfhallhpkkhaaGreatDoor.X
open Go Go.RowKit

/-- The cells of action j in memory. -/
theorem acts_cells {w : World} {base n : Nat} {v : Value} {l : List (AcP × Value)} (h : ActsAt w base n v l) (j : Nat) (hj : j < l.length) :
    ∃ g c cs, v = .slice (some ⟨g, 0, none⟩) l.length c ∧ w.heap[g]? = some (.cells cs 61 (0, 0)) ∧ l.length ≤ c ∧ (∃ a ∈ l, l[j]? = some a ∧ cs[j * 4]? = some (.int .i64 a.1.idx) ∧ cs[j * 4 + 1]? = some (.int .i64 n) ∧ cs[j * 4 + 2]? = some (str a.1.txt) ∧ cs[j * 4 + 3]? = some a.2) := by
  obtain ⟨h1, h2⟩ := h.1
  rcases h2 with ⟨_, h3⟩ | ⟨g, cap, cur, rfl, hb, hg, hc, hm, hs, ht⟩
  · omega
  · refine ⟨g, cap, cur, rfl, hg, hc, l[j], List.getElem_mem _, List.getElem?_eq_getElem hj, ?_⟩
    have hrow : ∀ (m : List (AcP × Value)) (k q : Nat) (hk : k < m.length), q < 4 → (acRow n m)[k * 4 + q]? = [Value.int .i64 m[k].1.idx, .int .i64 n, str m[k].1.txt, m[k].2][q]? := by
      intro m
      induction m with
      | nil => intro k q hk; simp at hk
      | cons a r ih =>
        intro k q hk hq
        have e : acRow n (a :: r) = [Value.int .i64 a.1.idx, .int .i64 n, str a.1.txt, a.2] ++ acRow n r := by simp [acRow]
        rw [e]
        cases k with
        | zero => rw [Nat.zero_mul, Nat.zero_add, List.getElem?_append_left (by simpa using hq)]; rfl
        | succ k =>
          rw [List.getElem?_append_right (by simp; omega), show (k + 1) * 4 + q - [Value.int .i64 a.1.idx, .int .i64 n, str a.1.txt, a.2].length = k * 4 + q by simp; omega, ih k q (by simpa using hk) hq]
          rfl
    have hcur : ∀ q, q < 4 → cur[j * 4 + q]? = [Value.int .i64 l[j].1.idx, .int .i64 n, str l[j].1.txt, l[j].2][q]? := fun q hq => by
      rw [← hrow l j q hj hq, ← ht, List.getElem?_take, if_pos (by omega), Array.getElem?_toList]
    exact ⟨hcur 0 (by decide), hcur 1 (by decide), hcur 2 (by decide), hcur 3 (by decide)⟩
set_option maxRecDepth 100000 in
set_option maxHeartbeats 4000000 in
theorem right_any (h : Hdr) (v : Value) (l : List (AcP × Value)) (base : Nat) (w : World) (hg : GOk w.heap) (hok : HdrOk h) (hl : l.length ≤ 4096) (ha : ActsAt w base h.len v l) (hao : ∀ a ∈ l, AcOk a.1) :
    Calls Tryz.prog 13 #[.agg (h.cells v)] w fun e w' => e = .returned (.bool true) ∧ Below w.heap.size w w' := by
  obtain ⟨ov, cv, rfl⟩ := ownsRow_slice ha.1
  have hF := hok.chk
  have hml : (l.length : Int) ≤ 4096 := by omega
  have hat : (0 : Int) ≤ (h.at' : Int) := by omega
  have hle0 : (0 : Int) ≤ (h.len : Int) := by omega
  unfold Hdr.cells
  unfold Hdr.name at hF
  go_enter Tryz.func13, Tryz.ntmps13
  go_wp2_with (go_at_call 43; refine (hF _ ?_).mono ?_; rotate_left; rintro e w1 ⟨rfl, hb⟩; have hbb := (hb.block w.heap.size (by simp)).trans (heap_new w _); obtain ⟨p0, p1, p2, p3, p4, p5, p6, p7⟩ := heap_cells8 hbb)
  rotate_left
  · exact hg.of (Below.heap_alloc w _ 0 hg.pos)
  have hbw := hb
  rw [World.size_alloc] at hbw
  have HB := Lib.hid hbb
  clear hb hbb p0 p1 p2 p3 p4 p5 p6 p7
  have hsz1 := hbw.size
  simp only [World.size_alloc] at hsz1
  go_loopw [3] (fun q3 X => ∃ j : Nat, q3 = .int .i64 j ∧ j ≤ l.length ∧ Below (w.heap.size + 1) w1 X)
    (fun q _ => l.length + 1 - (RowKit.intOf q).toNat)
  case atStart => exact ⟨0, rfl, Nat.zero_le _, Below.refl _ _⟩
  case round =>
    obtain ⟨j, rfl, hj, hX⟩ := hrel
    have hbox := (hX.block w.heap.size (by omega)).trans HB.out
    obtain ⟨p0, p1, p2, p3, p4, p5, p6, p7⟩ := heap_cells8 hbox
    have hsz := hX.size
    have hlw : w.heap.size < wr.heap.size := by omega
    clear hbox
    by_cases hlt : j < l.length
    · obtain ⟨g, c, cs, hv, hrow, hlc, a, hal, hla, q0, q1, q2, q3⟩ := acts_cells ha j hlt
      simp only [Value.slice.injEq] at hv
      obtain ⟨rfl, _, rfl⟩ := hv
      have hgl : g < w.heap.size := (Array.getElem?_eq_some_iff.1 hrow).1
      have hrX := (hX.block g (by omega)).trans ((hbw.block g (by omega)).trans ((Below.heap_alloc w _ g hgl).trans hrow))
      have r0 : wr.cell? ⟨g, j * 4, none⟩ = some (.int .i64 a.1.idx) := (cell_of_heap hrX).trans q0
      have r1 : wr.cell? ⟨g, j * 4 + 1, none⟩ = some (.int .i64 h.len) := (cell_of_heap hrX).trans q1
      have r2 : wr.cell? ⟨g, j * 4 + 2, none⟩ = some (str a.1.txt) := (cell_of_heap hrX).trans q2
      have r3 : wr.cell? ⟨g, j * 4 + 3, none⟩ = some a.2 := (cell_of_heap hrX).trans q3
      have hgx : g < wr.heap.size := by omega
      clear hrX hrow q0 q1 q2 q3 hla
      obtain ⟨oa, ca, hpa⟩ := ownsRow_slice (ha.2 a hal).1
      have hok := hao a hal
      obtain ⟨k1, k2, k3⟩ := hok
      have hp64 : (a.1.path.length : Int) ≤ 64 := by omega
      have hi0 : (0 : Int) ≤ (a.1.idx : Int) := by omega
      have hlt' : (j : Int) < l.length := by omega
      rw [hpa] at r3
      clear hpa ha hao hal
      go_wp2
      exact ⟨⟨j + 1, by push_cast; rfl, by omega, hX.alloc (by omega) _⟩, by simp [RowKit.intOf]; omega⟩
    · have hlt' : ¬ (j : Int) < l.length := by omega
      clear ha hao hok
      go_wp2
      go_ret
      exact ⟨rfl, (((Below.refl _ w).alloc (Nat.le_refl _) _).trans (hbw.mono (by omega))).trans (hX.mono (by omega))⟩
end Go.Proofs.YtedfhallhpkkhaaGreatDoor.X
