/- lineage.parse and lineage.Valid: what they give, for every text. -/
import Derived.Test.YtedfhallhpkkhaaGreatDoorXH
import Derived.Test.YtedfhallhpkkhaaGreatDoorXG
import Derived.RegionIn
set_option linter.unusedVariables false
set_option linter.unusedSimpArgs false
namespace Go.Proofs.YtedfhallhpkkhaaGreatDoor.X
open Go Go.Shelf Go.RowKit Go.Lib

attribute [local go_sem] Oper.semAt_some

theorem Kp.of_grown {A B : World} {row : Option Nat} (h : A.grownBy B row) (hr : ∀ r, row = some r → ∃ cs t fz, A.heap[r]? = some (.cells cs t fz) ∧ t ≠ 338 ∧ t ≠ 9) : Kp A B := fun b cs t fz hb ht =>
  h.block b (Array.getElem?_eq_some_iff.1 hb).1 fun e => by
    obtain ⟨cs', t', fz', h1, h2, h3⟩ := hr b e.symm
    rw [hb] at h1
    cases h1
    rcases ht with h | h
    · exact h2 h
    · exact h3 h
theorem Kp.putObj {n : Nat} (W : World) (l : Nat) (o o' : Obj) (_ : n ≤ l) (hl : W.heap[l]? = some o) (ho : o.isCells = false) : Kp W (W.putObj l o') := fun b cs t fz hb _ =>
  (grownBy_putObj' W l o').block b (Array.getElem?_eq_some_iff.1 hb).1 fun e => by
    cases e
    rw [hb] at hl
    cases hl
    cases ho

theorem parts_in (n : Nat) (s : ByteArray) (w : World) :
    CallsIn Fence.wide n Tryz.prog 214 #[.string s] w fun e w' => e = .returned (.func (.func 252) #[] #[.pointer (some ⟨w.heap.size, 0, none⟩)]) ∧ w' = w.alloc (.cells #[.string s] 9) := by
  refine callsIn_of_wp Tryz.func214 rfl trivial ?_ rfl
  simp only [Tryz.ntmps214, List.size_toArray, List.length_cons, List.length_nil, Nat.reduceAdd, Nat.reduceSub, Array.replicate_succ, Array.replicate_zero, List.push_toArray, List.append_toArray, List.nil_append, List.cons_append]
  gi_wp2
  go_ret
  exact ⟨rfl, rfl⟩
theorem parts_stops (n : Nat) (hn : 1 ≤ n) (Bn : Nat) (s : ByteArray) (hs : s.size ≤ 1000000) (w : World) (fz : Nat × Nat) (hc : w.heap[Bn]? = some (.cells #[.string s] 9 fz)) :
    SeqStopsK Fence.wide n Tryz.prog 252 #[.pointer (some ⟨Bn, 0, none⟩)] (fun x : Pt => #[encP x]) Kp (fun ys => ys.map Pt.e = full s) (fun pre => pre.map Pt.e <+: full s) 10 w := fun l J Jx W hW hJ _ hY h0 =>
  parts1_in n l Bn hn s hs J Jx W hJ hY fz ((hW.block Bn (Array.getElem?_eq_some_iff.1 hc).1).trans hc) h0

theorem Tryz.info3x : (Tryz.prog.info? 3).map (fun i => (i.zero, i.size, i.bytes)) = some (some (.int .i64 0), 1, 8) := by kernel_rfl

theorem owns_weak {w : World} {b b' : Nat} {e : TypeId} {size : Nat} {v : Value} {n : Nat} {xs : List Value} (h : w.ownsRow b e size v n xs) (hb : b' ≤ b) : w.ownsRow b' e size v n xs := by
  obtain ⟨h1, h2⟩ := h
  refine ⟨h1, ?_⟩
  rcases h2 with h | ⟨g, cap, cur, h3, h4, h5⟩
  · exact .inl h
  · exact .inr ⟨g, cap, cur, h3, Nat.le_trans hb h4, h5⟩
theorem fin3 {w W : World} {D b1 b2 b3 : Nat} {v : Value} {a x : Int} {s : ByteArray} {tmps : Array Value} (hK : W.heap[D]? = some (.deferred (some []))) (d1 : Boxed W b1 46 v) (d2 : Boxed W b2 3 (.int .i64 a)) (d3 : Boxed W b3 30 (.int .i64 x))
    (hB : Below w.heap.size w (W.putObj D (.deferred none))) (t1 : tmps[2]?.getD undef = .pointer (some ⟨b1, 0, none⟩)) (t2 : tmps[3]?.getD undef = .pointer (some ⟨b2, 0, none⟩)) (t3 : tmps[4]?.getD undef = .pointer (some ⟨b3, 0, none⟩)) (hx : x = 0 ↔ (full s).all (· == 0) = true) :
    ∃ u, (results Tryz.f163 tmps).run Tryz.prog (W.putObj D (.deferred none)) = .ok u (W.putObj D (.deferred none)) ∧ ∃ v a x, Ending.returned u = .returned (.tuple #[v, .int .i64 a, .int .i64 x]) ∧ (x = 0 ↔ (full s).all (· == 0) = true) ∧ Below w.heap.size w (W.putObj D (.deferred none)) := by
  have kp : ∀ {b : Nat} {t : TypeId} {u : Value}, Boxed W b t u → Boxed (W.putObj D (.deferred none)) b t u := fun {b t u} h => h.kept (grownBy_putObj' W D _) fun e => by
    cases e
    have h' : W.heap[D]? = _ := h
    rw [hK] at h'
    cases h'
  have e1 := (kp d1).cell
  have e2 := (kp d2).cell
  have e3 := (kp d3).cell
  refine ⟨.tuple #[v, .int .i64 a, .int .i64 x], ?_, v, a, x, rfl, hx, hB⟩
  have hr : Tryz.f163.results = #[.cell 2 46, .cell 3 3, .cell 4 30] := rfl
  simp only [results, hr]
  simp [go_sem, asAddr, t1, t2, t3, e1, e2, e3]

set_option maxRecDepth 100000 in
set_option maxHeartbeats 4000000 in
theorem parse_in (s : ByteArray) (hs : s.size ≤ 1000000) (w : World) :
    CallsIn Fence.wide 5 Tryz.prog 163 #[.string s] w fun e W' => ∃ v a x, e = .returned (.tuple #[v, .int .i64 a, .int .i64 x]) ∧ ((x = 0) ↔ (full s).all (· == 0) = true) ∧ Below w.heap.size w W' := by
  obtain ⟨i0, hi, hz0, hz1, hz2⟩ := info_parts Tryz.info3x
  refine callsIn_of_wp_marks Tryz.func163 rfl trivial ?_ rfl
  simp only [Tryz.ntmps163, List.size_toArray, List.length_cons, List.length_nil, Nat.reduceAdd, Nat.reduceSub, Array.replicate_succ, Array.replicate_zero, List.push_toArray, List.append_toArray, List.nil_append, List.cons_append]
  gi_wp2
  refine ⟨trivial, (parts_in 4 s _).mono ?_⟩
  rintro e w' ⟨rfl, rfl⟩
  gi_wp2
  have bR := ((((Boxed.new w 46 (.slice none 0 0)).alloc (.cells #[.int .i64 0] 3)).alloc (.cells #[.int .i64 0] 30)).alloc (.cells #[.slice none 0 0] 46)).alloc (.cells #[.string s] 9)
  have bA := (((Boxed.new (w.alloc (.cells #[.slice none 0 0] 46)) 3 (.int .i64 0)).alloc (.cells #[.int .i64 0] 30)).alloc (.cells #[.slice none 0 0] 46)).alloc (.cells #[.string s] 9)
  have bE := ((Boxed.new ((w.alloc (.cells #[.slice none 0 0] 46)).alloc (.cells #[.int .i64 0] 3)) 30 (.int .i64 0)).alloc (.cells #[.slice none 0 0] 46)).alloc (.cells #[.string s] 9)
  have bO := (Boxed.new (((w.alloc (.cells #[.slice none 0 0] 46)).alloc (.cells #[.int .i64 0] 3)).alloc (.cells #[.int .i64 0] 30)) 46 (.slice none 0 0)).alloc (.cells #[.string s] 9)
  have bS := Boxed.new ((((w.alloc (.cells #[.slice none 0 0] 46)).alloc (.cells #[.int .i64 0] 3)).alloc (.cells #[.int .i64 0] 30)).alloc (.cells #[.slice none 0 0] 46)) 9 (.string s)
  simp only [World.size_alloc] at bA bE bO bS
  obtain ⟨W0, hW0⟩ : ∃ W0, ((((w.alloc (.cells #[.slice none 0 0] 46)).alloc (.cells #[.int .i64 0] 3)).alloc (.cells #[.int .i64 0] 30)).alloc (.cells #[.slice none 0 0] 46)).alloc (.cells #[.string s] 9) = W0 := ⟨_, rfl⟩
  have hsz : W0.heap.size = w.heap.size + 5 := by rw [← hW0]; simp
  have hB0 : Below w.heap.size w W0 := by
    rw [← hW0]
    exact (((((Below.refl _ w).alloc (Nat.le_refl _) _).alloc (by simp) _).alloc (by simp; omega) _).alloc (by simp; omega) _).alloc (by simp; omega) _
  rw [hW0] at bR bA bE bO bS ⊢
  clear hW0
  refine wpIn_rangeFunc_ownH rfl (by decide) (gf := 252) (lb := #[.pointer (some ⟨w.heap.size + 1 + 1 + 1 + 1, 0, none⟩)]) rfl trivial (enters_of Tryz.func252 (by kernel_rfl) rfl)
    (parts_stops 4 (by decide) (w.heap.size + 1 + 1 + 1 + 1) s hs W0 (0, 0) bS) Kp.trans (fun W l o o' h1 h2 h3 _ => Kp.putObj W l o o' h1 h2 h3) (Below.refl _ _) (fun _ => rfl)
    (fun pre W => ((∃ v, Boxed W (w.heap.size + 1 + 1 + 1) 46 v ∧ W.ownsRow (w.heap.size + 5) 3 1 v pre.length (pre.map fun x : Pt => Value.int .i64 x.n) ∧ True) ∧ (Boxed W w.heap.size 46 (.slice none 0 0) ∧ (Boxed W (w.heap.size + 1) 3 (.int .i64 0) ∧ Boxed W (w.heap.size + 1 + 1) 30 (.int .i64 0)))) ∧ ((∀ x ∈ pre, Pt.e x = 0) ∧ Below w.heap.size w W))
    (fun c pre W => (∃ x : Pt, c = Code.ret ∧ x ∈ pre ∧ x.e ≠ 0 ∧ Boxed W w.heap.size 46 (.slice none 0 0) ∧ Boxed W (w.heap.size + 1) 3 (.int .i64 x.at') ∧ Boxed W (w.heap.size + 1 + 1) 30 (.int .i64 x.e)) ∧ Below w.heap.size w W)
    (OwnFrom.and (OwnFrom.and (Own.from (holdsRow_own (w.heap.size + 5) (w.heap.size + 1 + 1 + 1) 46 3 1 (fun pre : List Pt => pre.length) (fun pre => pre.map fun x : Pt => Value.int .i64 x.n) (fun _ _ => True)) _) (OwnFrom.and (Own.from (boxed_own _ _ _) _) (OwnFrom.and (Own.from (boxed_own _ _ _) _) (Own.from (boxed_own _ _ _) _)))) (OwnFrom.and (ownFrom_pure _ _) (ownFrom_below (Nat.le_refl _) (by omega))))
    (fun c pre X Y row hs hg hr => by
      obtain ⟨⟨x, e1, e2, e3, c1, c2, c3⟩, hB⟩ := hs
      exact ⟨⟨x, e1, e2, e3, boxed_own _ _ (fun _ : Unit => _) () X Y row c1 hg (fun r e => (hr r e).2), boxed_own _ _ (fun _ : Unit => _) () X Y row c2 hg (fun r e => (hr r e).2), boxed_own _ _ (fun _ : Unit => _) () X Y row c3 hg (fun r e => (hr r e).2)⟩, ownFrom_below (β := Unit) (Nat.le_refl _) (by omega) () X Y row hB hg hr⟩)
    ⟨⟨⟨_, bO, World.ownsRow_nil _ _ _ _, trivial⟩, bR, bA, bE⟩, (fun x hx => by cases hx), hB0⟩
    (fun x a' W => ∃ Bx, w.heap.size + 1 + 1 + 1 < Bx ∧ W.heap[Bx]? = some (.cells #[.int .i64 x.n, .int .i64 x.at', .int .i64 x.e] 338 (0, 0)) ∧ a' = { tmps := #[.string s, undef, .pointer (some ⟨w.heap.size, 0, none⟩), .pointer (some ⟨w.heap.size + 1, 0, none⟩), .pointer (some ⟨w.heap.size + 1 + 1, 0, none⟩), .pointer (some ⟨w.heap.size + 1 + 1 + 1, 0, none⟩), .pointer (some ⟨Bx, 0, none⟩), .string s, .func (.func 252) #[] #[.pointer (some ⟨w.heap.size + 1 + 1 + 1 + 1, 0, none⟩)], encP x, undef, undef, undef, undef, undef, undef, undef, undef, undef, undef, undef, undef, undef], defers := [] })
    (fun x a' _ X Y row hs hg hr => by
      obtain ⟨Bx, h1, h2, h3⟩ := hs
      refine ⟨Bx, h1, (hg.block Bx (Array.getElem?_eq_some_iff.1 h2).1 fun e => ?_).trans h2, h3⟩
      obtain ⟨_, o, ho, hc⟩ := hr Bx e.symm
      rw [h2] at ho
      cases ho
      cases hc)
    ?assign ?body ?done ?stop
  case assign =>
    rintro l pre x W K ⟨⟨⟨v, hv, hrow, _⟩, b1, b2, b3⟩, hz, hB⟩ hK
    simp only [encP]
    gi_wp2
    exact hK _ _ ((KeepsOthers.alloc _ _).from _) (Kp.of_below (below_alc W _)) ⟨⟨⟨v, hv.alloc _, hrow.alloc _, trivial⟩, b1.alloc _, b2.alloc _, b3.alloc _⟩, hz, hB.alloc hB.size _⟩ ⟨W.heap.size, hv.lt, alloc_new W _, rfl⟩
  case body =>
    rintro l pre x a' W hl ⟨r, hr⟩ ⟨⟨⟨v, hv, hrow, _⟩, b1, b2, b3⟩, hz, hB⟩ ⟨Bx, hBx, bX, rfl⟩ hlt
    have cX0 := (cell_part bX).1
    have cX1 := (cell_part bX).2.1
    have cX2 := (cell_part bX).2.2
    have hc := hv.cell
    by_cases hx : x.e = 0
    · have he : (x.e != 0) = false := by simp [hx]
      have hlW : w.heap.size + 5 ≤ W.heap.size := by have := (Array.getElem?_eq_some_iff.1 hr).1; omega
      have hml : 11 ≤ maxLen := by decide
      clear bS bO bE bA bR hB0
      gi_wp2_with (gi_at_builtin; refine wpListIn_append_own _ rfl _ _ 46 rfl (w.heap.size + 5) 3 i0 (.int .i64 0) 1 8 Tryz.underlying46 hi hz0 hz1 hz2 rfl (by decide) _ _ _ rfl (hrow.alloc _) ⟨W.heap.size, 0, none⟩ 1 1 [.int .i64 x.n] rfl rfl (cell_one_new _ _ _) (by simp [Value.oneCell']) (by omega) (by omega) (by simp; omega) ?_; intro v' w1 hown' hgrow _; obtain ⟨g', cap', rfl⟩ := ownsRow_succ hown'; have hv1 := (hv.appended (by decide) (owns_weak hrow (by omega)) hB.size (by omega) (owns_weak hown' (by omega)) hgrow).1; have hc1 := hv1.cell; have hf1 := hv1.frozen)
      replace hgrow : (W.alloc (Obj.cells #[.int .i64 x.n] 3)).grownBy w1 v.ownBlock := hgrow
      obtain ⟨_, hv2, hr2, hk2, hb2⟩ := hv.appended (by decide) (owns_weak hrow (by omega)) hB.size (by omega) (owns_weak hown' (by omega)) hgrow
      have hrow2 := hown'.kept (grownBy_setCell' w1 (w.heap.size + 1 + 1 + 1) (.slice (some ⟨g', 0, none⟩) (pre.length + 1) cap')) (.inr (hv1.not_row (by decide) hown').symm)
      have kp : Kp W (w1.setCell ⟨w.heap.size + 1 + 1 + 1, 0, none⟩ (.slice (some ⟨g', 0, none⟩) (pre.length + 1) cap')) := by
        refine (Kp.of_below (below_alc W (Obj.cells #[.int .i64 x.n] 3))).trans ((Kp.of_grown hgrow fun r e => ?_).trans (Kp.of_grown (grownBy_setCell' w1 _ _) fun r e => ?_))
        · rcases (hrow.alloc (Obj.cells #[.int .i64 x.n] 3)).2 with ⟨rfl, _⟩ | ⟨g, cap, cur, rfl, _, h4, _⟩
          · simp [Value.ownBlock] at e
          · obtain rfl : g = r := by simpa [Value.ownBlock] using e
            exact ⟨_, _, _, h4, by decide, by decide⟩
        · cases e
          exact ⟨_, _, _, hv1, by decide, by decide⟩
      have nr : some (w.heap.size + 1) ≠ v.ownBlock := fun e => by
        rcases hrow.2 with ⟨rfl, _⟩ | ⟨g, cap, cur, rfl, h3, _⟩
        · simp [Value.ownBlock] at e
        · simp only [Value.ownBlock, Option.some.injEq] at e
          omega
      refine ⟨hk2.from _, kp, ⟨⟨⟨_, hv2, ?_, trivial⟩, ((b1.alloc _).kept hgrow (b1.not_row (by decide) hrow)).other (by omega) _, ((b2.alloc _).kept hgrow nr).other (by omega) _, ((b3.alloc _).kept hgrow (b3.not_row (by decide) hrow)).other (by omega) _⟩, ?_, hB.trans hb2⟩⟩
      · simpa using hrow2
      · intro y hy
        rcases List.mem_append.1 hy with h | h
        · exact hz y h
        · simp only [List.mem_cons, List.not_mem_nil, or_false] at h
          rw [h]
          exact hx
    · have he : (x.e != 0) = true := by simp [hx]
      have c1 := b1.cell
      have f1 := b1.frozen
      have c2 := b2.cell
      have f2 := b2.frozen
      have c3 := b3.cell
      have f3 := b3.frozen
      gi_wp2
      have kf : KeepsFrom W0.heap.size W ((((W.setCell ⟨w.heap.size, 0, none⟩ (.slice none 0 0)).setCell ⟨w.heap.size + 1, 0, none⟩ (.int .i64 x.at')).setCell ⟨w.heap.size + 1 + 1, 0, none⟩ (.int .i64 x.e)).drew) :=
        ((((KeepsOthers.setCell _ _ _).trans (KeepsOthers.setCell _ _ _)).trans (KeepsOthers.setCell _ _ _)).trans (KeepsOthers.drew _)).from _
      have hBf : Below w.heap.size w ((((W.setCell ⟨w.heap.size, 0, none⟩ (.slice none 0 0)).setCell ⟨w.heap.size + 1, 0, none⟩ (.int .i64 x.at')).setCell ⟨w.heap.size + 1 + 1, 0, none⟩ (.int .i64 x.e)).drew) :=
        (((hB.setCell (p := ⟨w.heap.size, 0, none⟩) (Nat.le_refl _) _).setCell (p := ⟨w.heap.size + 1, 0, none⟩) (by simp) _).setCell (p := ⟨w.heap.size + 1 + 1, 0, none⟩) (by simp; omega) _).drew
      have d1 : Boxed ((((W.setCell ⟨w.heap.size, 0, none⟩ (.slice none 0 0)).setCell ⟨w.heap.size + 1, 0, none⟩ (.int .i64 x.at')).setCell ⟨w.heap.size + 1 + 1, 0, none⟩ (.int .i64 x.e)).drew) w.heap.size 46 (.slice none 0 0) := ((b1.set _).other (by omega) _).other (by omega) _
      have d2 : Boxed ((((W.setCell ⟨w.heap.size, 0, none⟩ (.slice none 0 0)).setCell ⟨w.heap.size + 1, 0, none⟩ (.int .i64 x.at')).setCell ⟨w.heap.size + 1 + 1, 0, none⟩ (.int .i64 x.e)).drew) (w.heap.size + 1) 3 (.int .i64 x.at') := ((b2.other (by omega) _).set _).other (by omega) _
      have d3 : Boxed ((((W.setCell ⟨w.heap.size, 0, none⟩ (.slice none 0 0)).setCell ⟨w.heap.size + 1, 0, none⟩ (.int .i64 x.at')).setCell ⟨w.heap.size + 1 + 1, 0, none⟩ (.int .i64 x.e)).drew) (w.heap.size + 1 + 1) 30 (.int .i64 x.e) := ((b3.other (by omega) _).other (by omega) _).set _
      clear bS bO bE bA bR hsz hB0 hrow hv hz
      gi_region
      all_goals gi_wp2
      all_goals exact ⟨kf, ⟨x, rfl, by simp, hx, d1, d2, d3⟩, hBf⟩
  case done =>
    rintro D ys W hD hS ⟨⟨⟨v, hv, hrow, _⟩, b1, b2, b3⟩, hz, hB⟩ hK
    obtain ⟨va, vn, vc, rfl⟩ : ∃ a n c, v = .slice a n c := by
      rcases hrow.2 with ⟨h, _⟩ | ⟨g, cap, cur, h, _⟩
      · exact ⟨_, _, _, h⟩
      · exact ⟨_, _, _, h⟩
    have hc := hv.cell
    have c1 := b1.cell
    have f1 := b1.frozen
    have c2 := b2.cell
    have f2 := b2.frozen
    have c3 := b3.cell
    have f3 := b3.frozen
    gi_wp2
    have hW : ∃ W2, ((W.setCell ⟨w.heap.size, 0, none⟩ (.slice va vn vc)).setCell ⟨w.heap.size + 1, 0, none⟩ (.int .i64 0)).setCell ⟨w.heap.size + 1 + 1, 0, none⟩ (.int .i64 0) = W2 := ⟨_, rfl⟩
    obtain ⟨W2, hW2⟩ := hW
    have hK2 : W2.heap[D]? = some (.deferred (some [])) := by
      rw [← hW2]
      exact (((KeepsOthers.setCell _ _ _).trans (KeepsOthers.setCell _ _ _)).trans (KeepsOthers.setCell _ _ _)).same D _ hK rfl
    have hBf : Below w.heap.size w W2 := by
      rw [← hW2]
      exact ((hB.setCell (p := ⟨w.heap.size, 0, none⟩) (Nat.le_refl _) _).setCell (p := ⟨w.heap.size + 1, 0, none⟩) (by simp) _).setCell (p := ⟨w.heap.size + 1 + 1, 0, none⟩) (by simp; omega) _
    have d1 : Boxed W2 w.heap.size 46 (.slice va vn vc) := by rw [← hW2]; exact ((b1.set _).other (by omega) _).other (by omega) _
    have d2 : Boxed W2 (w.heap.size + 1) 3 (.int .i64 0) := by rw [← hW2]; exact ((b2.other (by omega) _).set _).other (by omega) _
    have d3 : Boxed W2 (w.heap.size + 1 + 1) 30 (.int .i64 0) := by rw [← hW2]; exact ((b3.other (by omega) _).other (by omega) _).set _
    rw [hW2]
    refine ⟨by simp, .inl ⟨_, _, rfl, run_takeDeferred hK2, ?_⟩⟩
    exact fin3 hK2 d1 d2 d3 (hBf.trans (belowK_b (w := w) (Nat.le_refl _) W2 D _ _ (by omega) hK2 rfl rfl)) rfl rfl rfl (by rw [← hS]; simp; exact hz)
  case stop =>
    rintro D c pre W hD hS ⟨⟨x, rfl, e2, e3, b1, b2, b3⟩, hB⟩ hK
    gi_wp2
    refine ⟨by simp, .inl ⟨_, _, rfl, run_takeDeferred hK, ?_⟩⟩
    exact fin3 hK b1 b2 b3 (hB.trans (belowK_b (w := w) (Nat.le_refl _) W D _ _ (by omega) hK rfl rfl)) rfl rfl rfl (by
      refine ⟨fun h => absurd h e3, fun h => ?_⟩
      obtain ⟨t, ht⟩ := hS
      rw [← ht] at h
      simp only [List.all_append, Bool.and_eq_true, List.all_map, List.all_eq_true] at h
      have := h.1 x e2
      simpa using this)
end Go.Proofs.YtedfhallhpkkhaaGreatDoor.X
