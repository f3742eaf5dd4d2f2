/- replevinlaw55.ReceiptErrors: it returns true, whatever the input. -/
import Derived.Test.YtedfhallhpkkhaaGreatDoorXJ
import Derived.Test.YtedfhallhpkkhaaGreatDoorXL
import Derived.Test.YtedfhallhpkkhaaGreatDoorXC
set_option linter.unusedVariables false
set_option linter.unusedSimpArgs false
namespace Go.Proofs.YtedfhallhpkkhaaGreatDoor.X
open Go Go.Shelf Go.RowKit Go.Lib

def R5 (N : Nat) : Map := fun j => if j = 0 then some (0, 0) else if j = 7 then some (N, 0) else if j = 8 then some (N + 1, 0) else none
theorem orel_plain {R : Map} {i t : Nat} {c : List Value} {x : Option Obj} (hd : R.d i = 0) (hp : plainL c = true) (hx : x = some (.cells c.toArray t (0, 0))) : ORel R i (.cells c 0) x := by
  obtain ⟨h1, h2⟩ := plainL_ren R c hp
  rw [renL_eq] at h1
  refine ⟨c.toArray, t, (0, 0), hx, by simp, fun k v hk => ?_, fun k _ h => by simp at h, fun _ => hd, h2⟩
  have : (c.map (ren R))[k]? = some (ren R v) := by rw [List.getElem?_map, hk]; rfl
  rw [h1] at this
  simpa using this
theorem cut80_size (s : ByteArray) : (cut80 s).size ≤ 80 := by
  unfold cut80
  rw [ByteArray.size_extract]
  omega
set_option maxRecDepth 100000 in
theorem L5_ren (N : Nat) (k n i at' m : Int) (o t : ByteArray) (r : Nat → Int) : ∀ w : World, w.heap.size = N → (L5 k n i at' m o t r).map (ren (R5 N)) = [placeV k o n i t at', .int .i64 m, rootV r, .pointer (some ⟨w.heap.size, 0, none⟩), undef, .pointer (some ⟨w.heap.size + 1, 0, none⟩), .bool false, undef, undef, undef, undef, undef, undef, undef, undef, undef, undef, undef, undef, undef, .pointer (some ⟨w.heap.size, 0, none⟩), .pointer (some ⟨w.heap.size, 1, none⟩), .string o, .pointer (some ⟨w.heap.size, 0, none⟩), .pointer (some ⟨w.heap.size, 1, none⟩), .string o, .int .i64 ↑o.size, .int .i64 (min (↑o.size) 80), .string (cut80 o), .pointer (some ⟨w.heap.size, 0, none⟩), .pointer (some ⟨w.heap.size, 4, none⟩), .string t, .pointer (some ⟨w.heap.size, 0, none⟩), .pointer (some ⟨w.heap.size, 4, none⟩), .string t, .int .i64 ↑t.size, .int .i64 (min (↑t.size) 80), .string (cut80 t), .pointer (some ⟨w.heap.size, 0, none⟩), .pointer (some ⟨w.heap.size, 1, none⟩), .pointer (some ⟨w.heap.size, 0, none⟩), .pointer (some ⟨w.heap.size, 4, none⟩), undef, undef, undef, undef, undef, undef, undef, undef, undef, undef, undef, undef, undef, undef, undef, undef, undef, undef, undef, undef, undef, undef, undef, undef, undef, undef, undef, undef, undef, undef, undef, undef, undef, undef, undef, undef, undef, undef, undef, undef, undef, undef, undef, undef, undef, undef, undef, undef, undef, undef, undef, undef, undef, undef, undef, undef, undef, undef, undef, undef, undef, undef, undef, undef, undef] := by
  rintro w rfl
  rfl
theorem L5_wf (N : Nat) (k n i at' m : Int) (o t : ByteArray) (r : Nat → Int) : wfL (R5 N) (L5 k n i at' m o t r) := by
  have hp : wfv (R5 N) (placeV k o n i t at') := (plain_ren _ _ rfl).2
  have hr : wfv (R5 N) (rootV r) := (plain_ren _ _ rfl).2
  have h7 : ((R5 N) 7).isSome = true := rfl
  have h8 : ((R5 N) 8).isSome = true := rfl
  simp only [L5, wfL, hp, wfv, hr, h7, h8, wf_undef, and_self, and_true, true_and]
theorem la5_tmps (k n i at' m : Int) (o t : ByteArray) (r : Nat → Int) : lenter 107 0 (L5 k n i at' m o t r) .nil = some (la5 k n i at' m o t r).tmps := by
  rw [← enterF_eq]
  kernel_rfl
set_option maxRecDepth 100000 in
theorem tail_wp (k n i at' m : Int) (o t : ByteArray) (r : Nat → Int) (w : World) (hg : GOk w.heap) {c : Code} (hc : tail5 = c) {Q : Exit → Act → World → Prop}
    (hQ : ∀ ar' w', ar'.defers = [] → ar'.tmps.getD 6 undef = .bool true → Below w.heap.size w w' → Q .ret ar' w') :
    c.wpIn Fence.wide 0 Tryz.prog Q ⟨([placeV k o n i t at', .int .i64 m, rootV r, .pointer (some ⟨w.heap.size, 0, none⟩), undef, .pointer (some ⟨w.heap.size + 1, 0, none⟩), .bool false, undef, undef, undef, undef, undef, undef, undef, undef, undef, undef, undef, undef, undef, .pointer (some ⟨w.heap.size, 0, none⟩), .pointer (some ⟨w.heap.size, 1, none⟩), .string o, .pointer (some ⟨w.heap.size, 0, none⟩), .pointer (some ⟨w.heap.size, 1, none⟩), .string o, .int .i64 ↑o.size, .int .i64 (min (↑o.size) 80), .string (cut80 o), .pointer (some ⟨w.heap.size, 0, none⟩), .pointer (some ⟨w.heap.size, 4, none⟩), .string t, .pointer (some ⟨w.heap.size, 0, none⟩), .pointer (some ⟨w.heap.size, 4, none⟩), .string t, .int .i64 ↑t.size, .int .i64 (min (↑t.size) 80), .string (cut80 t), .pointer (some ⟨w.heap.size, 0, none⟩), .pointer (some ⟨w.heap.size, 1, none⟩), .pointer (some ⟨w.heap.size, 0, none⟩), .pointer (some ⟨w.heap.size, 4, none⟩), undef, undef, undef, undef, undef, undef, undef, undef, undef, undef, undef, undef, undef, undef, undef, undef, undef, undef, undef, undef, undef, undef, undef, undef, undef, undef, undef, undef, undef, undef, undef, undef, undef, undef, undef, undef, undef, undef, undef, undef, undef, undef, undef, undef, undef, undef, undef, undef, undef, undef, undef, undef, undef, undef, undef, undef, undef, undef, undef, undef, undef, undef, undef, undef, undef] : List Value).toArray, []⟩ (((w.alloc (.cells (cp5 k n i at' o t).toArray 26)).alloc (.cells (cr5 r).toArray 50)).drew) := by
  subst hc
  have hpos := hg.pos
  obtain ⟨e, he, hf⟩ := check_any k n i (cut80 o) (cut80 t) (by have := cut80_size o; omega)
  obtain ⟨s, ha, hn⟩ := tail_all he k n i at' m o t r
  obtain ⟨⟨res, s'⟩, h1, h2⟩ := all_get ha hn
  obtain ⟨la', lh', rfl, hmk, h6⟩ := goodEnd_some h2
  have hof : OrcFacts Tryz.prog (tailOrc (nm5 k n i o t) e) := by
    refine withTab_facts (fun p hp => ?_) (withTab_facts (fun p hp => ?_) (noFacts _))
    · simp only [List.mem_cons, List.not_mem_nil, or_false] at hp; subst hp; exact known_fact
    · simp only [List.mem_cons, List.not_mem_nil, or_false] at hp; subst hp; exact hf
  have hx : ExpOk Tryz.prog (tailOrc (nm5 k n i o t) e) (tailExp (nm5 k n i o t) e) := by
    intro f args v hm
    simp only [tailExp, List.mem_cons, List.not_mem_nil, or_false, Prod.mk.injEq] at hm
    obtain ⟨rfl, rfl, rfl⟩ := hm
    exact ⟨_, rfl, by kernel_rfl, rfl, tabF_one _ _ (veqL_nm k n i o t), rfl⟩
  have hrun := prun_ok Tryz.prog _ _ _ hx 3000 _ _ _ _ h1
  rw [lrunF_eq, anyF_eq] at hrun
  have hs := lrun_sound Tryz.prog ⟨w.heap.size, w⟩ _ (orcOk_of (c := ⟨w.heap.size, w⟩) hof hg hpos) 3000 _ _ hrun
  have q7 : (((w.alloc (.cells (cp5 k n i at' o t).toArray 26)).alloc (.cells (cr5 r).toArray 50)).drew).heap[w.heap.size]? = some (.cells (cp5 k n i at' o t).toArray 26 (0, 0)) :=
    (Below.heap_alloc _ _ _ (by simp)).trans (alloc_new w _)
  have q8 : (((w.alloc (.cells (cp5 k n i at' o t).toArray 26)).alloc (.cells (cr5 r).toArray 50)).drew).heap[w.heap.size + 1]? = some (.cells (cr5 r).toArray 50 (0, 0)) := by
    have := alloc_new (w.alloc (.cells (cp5 k n i at' o t).toArray 26)) (.cells (cr5 r).toArray 50)
    rw [World.size_alloc] at this
    exact this
  have hB : Below w.heap.size w (((w.alloc (.cells (cp5 k n i at' o t).toArray 26)).alloc (.cells (cr5 r).toArray 50)).drew) := (((Below.refl _ w).alloc (Nat.le_refl _) _).alloc (by simp) _).drew
  have hget : ∀ j, (lh5 k n i at' o t r).get j = if j = 8 then some (.cells (cr5 r) 0) else if j = 7 then some (.cells (cp5 k n i at' o t) 0) else none := fun j => by
    show (T.set (T.set .nil 7 _) 8 _).get j = _
    rw [T.get_set, T.get_set]
    rfl
  have hcase : ∀ j ob, (lh5 k n i at' o t r).get j = some ob → (j = 8 ∧ ob = .cells (cr5 r) 0) ∨ (j = 7 ∧ ob = .cells (cp5 k n i at' o t) 0) := fun j ob hj => by
    rw [hget] at hj
    split at hj
    · rename_i h; exact .inl ⟨h, by simpa using hj.symm⟩
    · split at hj
      · rename_i h; exact .inr ⟨h, by simpa using hj.symm⟩
      · cases hj
  have hrel : HRel (R5 w.heap.size) (lh5 k n i at' o t r) (((w.alloc (.cells (cp5 k n i at' o t).toArray 26)).alloc (.cells (cr5 r).toArray 50)).drew).heap := by
    refine ⟨fun j ob hj => ?_, fun j j' ob ob' hj hj' he => ?_, fun j hj => ?_, rfl, hg.of (hB.block 0 hpos), fun j ob hj => ?_⟩
    · rcases hcase j ob hj with ⟨rfl, rfl⟩ | ⟨rfl, rfl⟩
      · exact ⟨rfl, orel_plain rfl rfl q8⟩
      · exact ⟨rfl, orel_plain rfl rfl q7⟩
    · rcases hcase j ob hj with ⟨rfl, rfl⟩ | ⟨rfl, rfl⟩ <;> rcases hcase j' ob' hj' with ⟨rfl, rfl⟩ | ⟨rfl, rfl⟩
      · rfl
      · exact absurd he (by show ¬ (w.heap.size + 1 = w.heap.size); omega)
      · exact absurd he (by show ¬ (w.heap.size = w.heap.size + 1); omega)
      · rfl
    · have hj : 9 ≤ j := hj
      simp only [R5]
      rw [if_neg (by omega), if_neg (by omega), if_neg (by omega)]
    · rcases hcase j ob hj with ⟨rfl, rfl⟩ | ⟨rfl, rfl⟩
      · show w.heap.size + 1 ≠ 0; omega
      · show w.heap.size ≠ 0; omega
  obtain ⟨g1, g2, g3⟩ := lenter_ok (R := R5 w.heap.size) (n := 107) _ 0 (la5_tmps k n i at' m o t r) (L5_wf _ k n i at' m o t r) (fun k v hk => by cases hk)
  have hlen : (L5 k n i at' m o t r).length = 107 := rfl
  have hL := L5_ren w.heap.size k n i at' m o t r w rfl
  have harel : ARel (R5 w.heap.size) (la5 k n i at' m o t r) ⟨([placeV k o n i t at', .int .i64 m, rootV r, .pointer (some ⟨w.heap.size, 0, none⟩), undef, .pointer (some ⟨w.heap.size + 1, 0, none⟩), .bool false, undef, undef, undef, undef, undef, undef, undef, undef, undef, undef, undef, undef, undef, .pointer (some ⟨w.heap.size, 0, none⟩), .pointer (some ⟨w.heap.size, 1, none⟩), .string o, .pointer (some ⟨w.heap.size, 0, none⟩), .pointer (some ⟨w.heap.size, 1, none⟩), .string o, .int .i64 ↑o.size, .int .i64 (min (↑o.size) 80), .string (cut80 o), .pointer (some ⟨w.heap.size, 0, none⟩), .pointer (some ⟨w.heap.size, 4, none⟩), .string t, .pointer (some ⟨w.heap.size, 0, none⟩), .pointer (some ⟨w.heap.size, 4, none⟩), .string t, .int .i64 ↑t.size, .int .i64 (min (↑t.size) 80), .string (cut80 t), .pointer (some ⟨w.heap.size, 0, none⟩), .pointer (some ⟨w.heap.size, 1, none⟩), .pointer (some ⟨w.heap.size, 0, none⟩), .pointer (some ⟨w.heap.size, 4, none⟩), undef, undef, undef, undef, undef, undef, undef, undef, undef, undef, undef, undef, undef, undef, undef, undef, undef, undef, undef, undef, undef, undef, undef, undef, undef, undef, undef, undef, undef, undef, undef, undef, undef, undef, undef, undef, undef, undef, undef, undef, undef, undef, undef, undef, undef, undef, undef, undef, undef, undef, undef, undef, undef, undef, undef, undef, undef, undef, undef, undef, undef, undef, undef, undef, undef] : List Value).toArray, []⟩ := by
    rw [← hL]
    refine ⟨⟨by simp [hlen]; rfl, fun j hj => ?_, g3⟩, rfl, fun j hj => by cases hj⟩
    have hj : j < 107 := hj
    rw [g2 j, if_pos (by omega)]
    simp only [Nat.sub_zero, List.getElem?_toArray, List.getElem?_map]
    rw [List.getElem?_eq_getElem (by omega)]
    rfl
  have hsc := (hs (R5 w.heap.size) _ _ hrel harel ⟨fun j ob hj => ?_, hB, hB.size⟩ (fun l hl => by cases hl)).wp
  · refine wpIn_mono hsc fun er ar' w' hp => ?_
    obtain ⟨rfl, R', hG, hA⟩ := hp
    refine hQ ar' w' ?_ ?_ ?_
    · rw [hA.defers, hmk]; rfl
    · obtain ⟨_, a2, a3⟩ := hA.tmps
      have h6n := (a3 6 _ h6).1
      have := a2 6 h6n
      rw [h6] at this
      rw [Array.getD_eq_getD_getElem?, this]
      rfl
    · exact (Base.goes (c := ⟨w.heap.size, w⟩) ⟨fun j ob hj => by
        rcases hcase j ob hj with ⟨rfl, rfl⟩ | ⟨rfl, rfl⟩
        · show w.heap.size ≤ w.heap.size + 1; omega
        · exact Nat.le_refl _, hB, hB.size⟩ hG).below
  · rcases hcase j ob hj with ⟨rfl, rfl⟩ | ⟨rfl, rfl⟩
    · show w.heap.size ≤ w.heap.size + 1; omega
    · exact Nat.le_refl _
set_option maxRecDepth 100000 in
set_option maxHeartbeats 4000000 in
theorem errors_in (k n i at' m : Int) (o t : ByteArray) (r : Nat → Int) (ho : o.size ≤ 9223372036854775807) (ht : t.size ≤ 9223372036854775807) (w : World) (hg : GOk w.heap) :
    CallsIn Fence.wide 0 Tryz.prog 5 #[placeV k o n i t at', .int .i64 m, rootV r] w fun e W' => e = .returned (.bool true) ∧ Below w.heap.size w W' := by
  refine callsIn_of_wp Tryz.func5 rfl trivial ?_ rfl
  simp only [Tryz.ntmps5, List.size_toArray, List.length_cons, List.length_nil, Nat.reduceAdd, Nat.reduceSub, Array.replicate_succ, Array.replicate_zero, List.push_toArray, List.append_toArray, List.nil_append, List.cons_append]
  unfold placeV rootV
  gi_wp2
  gi_region
  rename_i Q' K hK
  show K _ _
  refine hK _ _ ?_
  refine tail_wp k n i at' m o t r w hg (by kernel_rfl) fun ar' w' hd h6 hB => ?_
  exact bodyPost_ret (results_tmp rfl _ _ _) hd ⟨congrArg _ h6, hB⟩
end Go.Proofs.YtedfhallhpkkhaaGreatDoor.X
