/- replevinlaw55.encode: the walk. -/
import Derived.Test.YtedfhallhpkkhaaGreatDoorZS
set_option linter.unusedVariables false
set_option linter.unusedSimpArgs false
namespace Go.Proofs.YtedfhallhpkkhaaGreatDoor.X
open Go Go.RowKit

theorem encAcs_take (l : List AcP) (j : Nat) (hj : j < l.length) : encAcs (l.take (j + 1)) = encAcs (l.take j) ++ encAc l[j] := by
  rw [List.take_succ_eq_append_getElem hj, encAcs_snoc]
theorem encPath_take (p : List (List UInt8)) (k : Nat) (hk : k < p.length) : encPath (p.take (k + 1)) = encPath (p.take k) ++ encT p[k] := by
  rw [List.take_succ_eq_append_getElem hk, encPath_snoc]
theorem encAcs_le (l : List AcP) (j : Nat) : (encAcs (l.take j)).length ≤ (encAcs l).length := by
  have h : encAcs l = encAcs (l.take j) ++ encAcs (l.drop j) := by
    unfold encAcs
    rw [← List.flatten_append, ← List.map_append, List.take_append_drop]
  rw [h, List.length_append]; omega
theorem encPath_le (p : List (List UInt8)) (k : Nat) : (encPath (p.take k)).length ≤ (encPath p).length := by
  have h : encPath p = encPath (p.take k) ++ encPath (p.drop k) := by
    unfold encPath
    rw [← List.flatten_append, ← List.map_append, List.take_append_drop]
  rw [h, List.length_append]; omega
set_option maxRecDepth 100000 in
set_option maxHeartbeats 40000000 in
theorem encode_any (h : Hdr) (v : Value) (l : List (AcP × Value)) (base0 : Nat) (w : World) (hg : GOk w.heap) (hok : HdrOk h) (hl : l.length ≤ 4096) (ha : ActsAt w base0 h.len v l) (hao : ∀ a ∈ l, AcOk a.1) (htot : (encRc h (l.map (·.1))).length ≤ 400) :
    Calls Tryz.prog 14 #[.agg (h.cells v)] w fun e w' => e = .returned (str (encRc h (l.map (·.1)))) ∧ Below w.heap.size w w' := by
  obtain ⟨ov, cv, rfl⟩ := ownsRow_slice ha.1
  have hE := enc_any h hok
  have hat := hok.hat
  have hle := hok.hlen
  have hml : (l.length : Int) ≤ 4096 := by omega
  unfold encRc at htot
  simp only [List.length_append, encT, List.length_map] at htot
  unfold Hdr.cells
  unfold Hdr.name at hE
  go_enter Tryz.func14, Tryz.ntmps14
  go_wp2_with (first
    | (go_at_call 44; refine (newWriter_any _).mono ?_; rintro e wa ⟨rfl, hWr, hgr⟩; rw [World.size_alloc] at hWr; have hgs := hgr.size; rw [World.size_alloc] at hgs; have hbx := (hgr.block w.heap.size (by simp) (by simp)).trans (heap_new w _); obtain ⟨p0, p1, p2, p3, p4, p5, p6, p7⟩ := heap_cells8 hbx)
    | (go_at_call 45; refine (hE _ ?_).mono ?_; rotate_left; rintro e wb ⟨rfl, hbel⟩; have hby := (hbel.block w.heap.size (Array.getElem?_eq_some_iff.1 hbx).1).trans hbx; clear p0 p1 p2 p3 p4 p5 p6 p7; obtain ⟨p0, p1, p2, p3, p4, p5, p6, p7⟩ := heap_cells8 hby; have hWk : Wk (w.heap.size + 1) (w.alloc _) wb (w.heap.size + 1) none 0 [] := Wk.below ⟨hWr, KT.of_none hgr, (Below.refl _ _).grown hgr (by simp) (by simp), hgs⟩ hbel)
    | (go_at_call 46; (with_reducible refine Calls.mono (hWk.txt ?_) ?_); (simp only [List.length_nil]; omega); rintro e wc ⟨rfl, hkt, oo, cc, hWk'⟩; replace hWk := hWk'; replace hby := hkt _ _ _ _ hby (by decide) (by decide); clear p0 p1 p2 p3 p4 p5 p6 p7; obtain ⟨p0, p1, p2, p3, p4, p5, p6, p7⟩ := heap_cells8 hby)
    | (go_at_call 47; (with_reducible refine Calls.mono (hWk.num ?_ ?_) ?_); omega; (simp only [List.length_append, List.length_nil, encT]; omega); rintro e wc ⟨rfl, hkt, oo, cc, hWk'⟩; replace hWk := hWk'; replace hby := hkt _ _ _ _ hby (by decide) (by decide); clear p0 p1 p2 p3 p4 p5 p6 p7; obtain ⟨p0, p1, p2, p3, p4, p5, p6, p7⟩ := heap_cells8 hby))
  rotate_left
  · exact hg.of (((Below.refl _ w).alloc (Nat.le_refl _) _).grown hgr (by simp) (by simp) |>.block 0 hg.pos)
  obtain ⟨w1, hw1⟩ : ∃ w1, w.alloc (.cells #[.int .i64 h.k, str h.o, .int .i64 h.n, .int .i64 h.i, str h.t, .int .i64 h.at', .int .i64 h.len, .slice ov l.length cv] 29) = w1 := ⟨_, rfl⟩
  have hbox1 : w1.heap[w.heap.size]? = some (.cells #[.int .i64 h.k, str h.o, .int .i64 h.n, .int .i64 h.i, str h.t, .int .i64 h.at', .int .i64 h.len, .slice ov l.length cv] 29 (0, 0)) := hw1 ▸ heap_new w _
  have hbw1 : Below w.heap.size w w1 := hw1 ▸ (Below.refl _ w).alloc (Nat.le_refl _) _
  have hold1 : ∀ j, j < w.heap.size → w1.heap[j]? = w.heap[j]? := fun j hj => hw1 ▸ Below.heap_alloc w _ j hj
  rw [hw1] at hWk
  obtain ⟨hdr, hhd⟩ : ∃ hdr, [] ++ encT (encNm h.nmp) ++ encN h.at' ++ encN h.len ++ encN l.length = hdr := ⟨_, rfl⟩
  rw [hhd] at hWk
  have hhl : hdr.length + (encAcs (l.map (·.1))).length ≤ 400 := by
    rw [← hhd]
    simp only [List.length_append, List.length_nil, encT]
    omega
  have HHD := Lib.hid hhd
  have HB1 := Lib.hid hbox1
  have HO1 := Lib.hid hold1
  clear hhd hbox1 hold1 hw1 htot hby hbx hbel hgr hWr hgs hkt p0 p1 p2 p3 p4 p5 p6 p7 hE
  go_loopw [6] (fun q6 X => ∃ (j : Nat) (o : Option Addr) (c : Nat), q6 = .int .i64 j ∧ j ≤ l.length ∧ Wk (w.heap.size + 1) w1 X (w.heap.size + 1) o c (hdr ++ encAcs ((l.map (·.1)).take j)))
    (fun q _ => l.length + 1 - (RowKit.intOf q).toNat)
  case atStart => exact ⟨0, _, _, rfl, Nat.zero_le _, by simpa [encAcs] using hWk⟩
  case round =>
    clear hWk
    obtain ⟨j, o, c, rfl, hj, hX⟩ := hrel
    have hbox := hX.kt _ _ _ _ HB1.out (by decide) (by decide)
    obtain ⟨p0, p1, p2, p3, p4, p5, p6, p7⟩ := heap_cells8 hbox
    have hlw : w.heap.size < wr.heap.size := (Array.getElem?_eq_some_iff.1 hbox).1
    clear hbox
    have hjl := encAcs_le (l.map (·.1)) j
    by_cases hlt : j < l.length
    · obtain ⟨g, c', cs, hv, hrow, hlc, a, hal, hla, q0, q1, q2, q3⟩ := acts_cells ha j hlt
      simp only [Value.slice.injEq] at hv
      obtain ⟨rfl, _, rfl⟩ := hv
      have hgl : g < w.heap.size := (Array.getElem?_eq_some_iff.1 hrow).1
      have hrX := hX.kt _ _ _ _ ((HO1.out g hgl).trans hrow) (by decide) (by decide)
      have r0 : wr.cell? ⟨g, j * 4, none⟩ = some (.int .i64 a.1.idx) := (cell_of_heap hrX).trans q0
      have r1 : wr.cell? ⟨g, j * 4 + 1, none⟩ = some (.int .i64 h.len) := (cell_of_heap hrX).trans q1
      have r2 : wr.cell? ⟨g, j * 4 + 2, none⟩ = some (str a.1.txt) := (cell_of_heap hrX).trans q2
      have r3 : wr.cell? ⟨g, j * 4 + 3, none⟩ = some a.2 := (cell_of_heap hrX).trans q3
      have hgx : g < wr.heap.size := (Array.getElem?_eq_some_iff.1 hrX).1
      have hja : encAcs ((l.map (·.1)).take (j + 1)) = encAcs ((l.map (·.1)).take j) ++ encAc a.1 := by
        rw [encAcs_take _ j (by simpa using hlt)]
        congr 2
        rw [List.getElem?_eq_getElem hlt] at hla
        simp only [Option.some.injEq] at hla
        simp [hla]
      have hjl1 := encAcs_le (l.map (·.1)) (j + 1)
      rw [hja, List.length_append] at hjl1
      have hel : (encAc a.1).length = (encN a.1.idx).length + ((encN a.1.txt.length).length + a.1.txt.length) + (encN a.1.path.length).length + (encPath a.1.path).length := by
        simp only [encAc, encT, List.length_append]
      have HJA := Lib.hid hja
      have HEL := Lib.hid hel
      have hbnd : hdr.length + (encAcs ((l.map (·.1)).take j)).length + ((encN a.1.idx).length + ((encN a.1.txt.length).length + a.1.txt.length) + (encN a.1.path.length).length + (encPath a.1.path).length) ≤ 400 := by omega
      clear hrX hrow q0 q1 q2 q3 hla hja hel
      have hpath := ha.2 a hal
      obtain ⟨oa, ca, hpa⟩ := ownsRow_slice hpath.1
      obtain ⟨k1, k2, k3⟩ := hao a hal
      have hlt' : (j : Int) < l.length := by omega
      have hp64 : (a.1.path.length : Int) ≤ 64 := by omega
      rw [hpa] at r3
      have HPA := Lib.hid hpa
      have hXa := hX.alloc (.cells #[.int .i64 a.1.idx, .int .i64 h.len, str a.1.txt, .slice oa a.1.path.length ca] 61)
      have hPn := heap_new wr (.cells #[.int .i64 a.1.idx, .int .i64 h.len, str a.1.txt, .slice oa a.1.path.length ca] 61)
      clear hpa hX
      go_wp2_with (first
        | (go_at_call 47; (first | (with_reducible refine Calls.mono (hXa.num ?_ ?_) ?_) | (with_reducible refine Calls.mono (hWk.num ?_ ?_) ?_)); omega; (simp only [List.length_append, encT]; omega); rintro e wc ⟨rfl, hkt, oo, cc, hWk⟩; replace hPn := hkt _ _ _ _ hPn (by decide) (by decide); have := heap_cells4 hPn; obtain ⟨s0, s1, s2, s3⟩ := this)
        | (go_at_call 46; (with_reducible refine Calls.mono (hWk.txt ?_) ?_); (simp only [List.length_append, encT]; omega); rintro e wc ⟨rfl, hkt, oo, cc, hWk⟩; replace hPn := hkt _ _ _ _ hPn (by decide) (by decide); have := heap_cells4 hPn; obtain ⟨s0, s1, s2, s3⟩ := this))
      obtain ⟨bs2, hb2⟩ : ∃ bs2, hdr ++ encAcs ((l.map (·.1)).take j) ++ encN a.1.idx ++ encT a.1.txt ++ encN a.1.path.length = bs2 := ⟨_, rfl⟩
      rw [hb2] at hWk
      have hl2 : bs2.length + (encPath a.1.path).length ≤ 400 := by
        rw [← hb2]
        simp only [List.length_append, encT]
        omega
      have HB2 := Lib.hid hb2
      obtain ⟨P, hPP⟩ : ∃ P, wr.heap.size = P := ⟨_, rfl⟩
      rw [hPP] at hPn ⊢
      have HPN := Lib.hid hPn
      have HPP := Lib.hid hPP
      clear hb2 hPP hPn hXa r0 r1 r2 r3 p0 p1 p2 p3 p4 p5 p6 p7 s0 s1 s2 s3 hkt
      go_loopw [8] (fun q8 X => ∃ (k : Nat) (o : Option Addr) (c : Nat), q8 = .int .i64 k ∧ k ≤ a.1.path.length ∧ Wk (w.heap.size + 1) w1 X (w.heap.size + 1) o c (bs2 ++ encPath (a.1.path.take k)) ∧ X.heap[P]? = some (.cells #[.int .i64 a.1.idx, .int .i64 h.len, str a.1.txt, .slice oa a.1.path.length ca] 61 (0, 0)))
        (fun q _ => a.1.path.length + 1 - (RowKit.intOf q).toNat)
      case atStart => exact ⟨0, _, _, rfl, Nat.zero_le _, by simpa [encPath] using hWk, HPN.out⟩
      case round =>
        clear hWk
        obtain ⟨k, o2, c2, rfl, hk, hY, hPn3⟩ := hrel
        obtain ⟨s0, s1, s2, s3⟩ := heap_cells4 hPn3
        have HP3 := Lib.hid hPn3
        clear hPn3
        by_cases hkl : k < a.1.path.length
        · obtain ⟨g2, c3, cs2, hv2, hrow2, h32, hby⟩ := path_cells hpath k hkl
          have e := HPA.out.symm.trans hv2
          simp only [Value.slice.injEq] at e
          obtain ⟨rfl, _, rfl⟩ := e
          have hg2l : g2 < w.heap.size := (Array.getElem?_eq_some_iff.1 hrow2).1
          have hr2 := hY.kt _ _ _ _ ((HO1.out g2 hg2l).trans hrow2) (by decide) (by decide)
          have hpt := encPath_take a.1.path k hkl
          have hpl := encPath_le a.1.path (k + 1)
          rw [hpt, List.length_append] at hpl
          obtain ⟨d, hd⟩ : ∃ d, a.1.path[k] = d := ⟨_, rfl⟩
          rw [hd] at h32 hby hpt hpl
          have kc : ∀ c, (convert 63 9 (.slice (some ⟨g2, k * 32, none⟩) 32 c)).run Tryz.prog wr = .ok (str d) wr := fun c => by
            have := run_convert_bytes_back (P := Tryz.prog) wr 63 9 5 ⟨g2, k * 32, none⟩ c d Tryz.underlying63 Tryz.underlying5 Tryz.underlying9 (fun q hq => by
              rw [Addr.add_lit, cell_of_heap hr2, hby q (by omega), List.getElem?_eq_getElem hq]
              rfl)
            rw [h32] at this
            exact this
          have hkl' : (k : Int) < a.1.path.length := by omega
          have hbd : (bs2 ++ encPath (a.1.path.take k)).length + d.length ≤ 999000 := by
            rw [List.length_append]
            unfold encT at hpl
            rw [List.length_append] at hpl
            omega
          have HPT := Lib.hid hpt
          have HBD := Lib.hid hbd
          have HY := Lib.hid hY
          have hvc := hpath.1.1
          clear hpt hbd hd h32 hby hr2 hrow2 hv2 hpl hY hvc
          go_wp2_with (go_at_call 46; (with_reducible refine Calls.mono (HY.out.txt HBD.out) ?_); rintro e wc ⟨rfl, hkt, oo, cc, hWk⟩; have hP4 := Lib.hid (hkt _ _ _ _ HP3.out (by decide) (by decide)))
          go_round
          case rel => exact ⟨k + 1, oo, cc, by push_cast; rfl, by omega, by rw [HPT.out, ← List.append_assoc]; exact hWk, hP4.out⟩
          case measure => simp [RowKit.intOf]; omega
        · have hke : k = a.1.path.length := by omega
          have hkl' : ¬ (k : Int) < a.1.path.length := by omega
          have hfin : Wk (w.heap.size + 1) w1 wr (w.heap.size + 1) o2 c2 (hdr ++ encAcs ((l.map (·.1)).take (j + 1))) := by
            have h9 := hY
            rw [hke, List.take_length, ← HB2.out] at h9
            rw [HJA.out]
            simpa [encAc, List.append_assoc] using h9
          have HF := Lib.hid hfin
          clear hfin hY hke
          go_wp2
          go_round
          case rel => exact ⟨j + 1, o2, c2, by push_cast; rfl, by omega, HF.out⟩
          case measure => simp [RowKit.intOf]; omega
    · have hje : j = l.length := by omega
      have hlt' : ¬ (j : Int) < l.length := by omega
      obtain ⟨L, hL⟩ : ∃ L, encRc h (l.map (·.1)) = L := ⟨_, rfl⟩
      have hLe : hdr ++ encAcs ((l.map (·.1)).take j) = L := by
        rw [← hL, hje, ← HHD.out, show (l.map (·.1)).take l.length = l.map (·.1) from by rw [← List.length_map (·.1), List.take_length]]
        simp [encRc, List.append_assoc]
      have hlen : (hdr ++ encAcs ((l.map (·.1)).take j)).length ≤ 1000000 := by rw [List.length_append]; omega
      have hne : hdr ++ encAcs ((l.map (·.1)).take j) ≠ [] := by
        rw [← HHD.out]
        simp [encN_ne]
      have HL := Lib.hid hL
      have HLE := Lib.hid hLe
      have HNE := Lib.hid hne
      have HX := Lib.hid hX
      clear hL hLe hne hje hX
      go_wp2_with (go_at_call 48; refine (wbytes_as _ _ _ _ _ L _ HX.out.wr HLE.out hlen HNE.out).mono ?_; rintro e wn ⟨gg, cc, rfl, hcc, hgr⟩; have kc := conv_bytes _ _ cc _ hcc; clear hcc)
      go_ret
      refine ⟨?_, hbw1.trans ((HX.out.bel.grown hgr HX.out.size (by simp)).mono (by omega))⟩
      show Ending.returned (str L) = _
      rw [← HL.out]
end Go.Proofs.YtedfhallhpkkhaaGreatDoor.X
