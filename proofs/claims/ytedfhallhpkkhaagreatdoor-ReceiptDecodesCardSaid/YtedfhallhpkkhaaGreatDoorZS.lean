/- replevinlaw55.encode: the encoding of a receipt that was decoded. -/
import Derived.Test.YtedfhallhpkkhaaGreatDoorZR
import Derived.Test.YtedfhallhpkkhaaGreatDoorZD
set_option linter.unusedVariables false
set_option linter.unusedSimpArgs false
namespace Go.Proofs.YtedfhallhpkkhaaGreatDoor.X
open Go Go.RowKit

theorem enc_any (h : Hdr) (hok : HdrOk h) (w : World) (hg : GOk w.heap) : Calls Tryz.prog 45 #[h.name] w fun e w' => e = .returned (.tuple #[str (encNm h.nmp), .int .i64 0]) ∧ Below w.heap.size w w' := by
  have hk := hok.hk
  exact enc1 usesVal (useO h.k) (useN h.k) (useT h.k) (useM h.k) (useW h.k) h.k h.n h.i h.o h.t w (use_shp _ hk) hg hok.chk (by omega) hok.hn hok.hi (by have := hok.ho; omega) (by have := hok.ht; omega) uses_fact (use_idx _ hk)
theorem KT.of_below {w w' : World} (h : Below w.heap.size w w') : KT w w' := fun b cs t fz h1 _ _ => (h.block b (Array.getElem?_eq_some_iff.1 h1).1).trans h1
theorem Wr.below {base : Nat} {w w' : World} {W : Nat} {o : Option Addr} {c : Nat} {bs : List UInt8} (h : Wr base w W o c bs) (b : Below w.heap.size w w') : Wr base w' W o c bs :=
  ⟨h.low, (b.block W h.lt).trans h.obj, own_same h.own fun j hj => by obtain ⟨cs, h1⟩ := own_type h.own hj; exact b.block j (Array.getElem?_eq_some_iff.1 h1).1⟩
/-- A writer at work; all but writers and rows of bytes is as in w1. -/
structure Wk (base : Nat) (w1 X : World) (W : Nat) (o : Option Addr) (c : Nat) (bs : List UInt8) : Prop where
  wr : Wr base X W o c bs
  kt : KT w1 X
  bel : Below base w1 X
  size : base ≤ X.heap.size
theorem Wk.num {base W : Nat} {w1 X : World} {o : Option Addr} {c : Nat} {bs : List UInt8} (h : Wk base w1 X W o c bs) {n : Nat} (hn : n < 2 ^ 63) (hlen : bs.length ≤ 999000) :
    Calls Tryz.prog 47 #[.pointer (some ⟨W, 0, none⟩), .int .i64 n] X fun e w' => e = .returned (.tuple #[]) ∧ KT X w' ∧ ∃ o' c', Wk base w1 w' W o' c' (bs ++ encN n) :=
  (wnum_any base W o c bs n X h.wr hn hlen h.size).mono fun e w' ⟨h1, o', c', h2, h3, h4⟩ => ⟨h1, h3, o', c', h2, h.kt.trans h3, h.bel.trans h4, Nat.le_trans h.size h4.size⟩
theorem Wk.txt {base W : Nat} {w1 X : World} {o : Option Addr} {c : Nat} {bs : List UInt8} (h : Wk base w1 X W o c bs) {l : List UInt8} (hlen : bs.length + l.length ≤ 999000) :
    Calls Tryz.prog 46 #[.pointer (some ⟨W, 0, none⟩), str l] X fun e w' => e = .returned (.tuple #[]) ∧ KT X w' ∧ ∃ o' c', Wk base w1 w' W o' c' (bs ++ encT l) :=
  (wtxt_any base W o c bs l X h.wr hlen h.size).mono fun e w' ⟨h1, o', c', h2, h3, h4⟩ => ⟨h1, h3, o', c', h2, h.kt.trans h3, h.bel.trans h4, Nat.le_trans h.size h4.size⟩
theorem Wk.alloc {base W : Nat} {w1 X : World} {o : Option Addr} {c : Nat} {bs : List UInt8} (h : Wk base w1 X W o c bs) (ob : Obj) : Wk base w1 (X.alloc ob) W o c bs :=
  ⟨h.wr.grown (World.grownBy_alloc X ob none), h.kt.trans (KT.alloc X ob), h.bel.alloc h.size _, Nat.le_trans h.size (by simp)⟩
theorem Wk.below {base W : Nat} {w1 X X' : World} {o : Option Addr} {c : Nat} {bs : List UInt8} (h : Wk base w1 X W o c bs) (b : Below X.heap.size X X') : Wk base w1 X' W o c bs :=
  ⟨h.wr.below b, h.kt.trans (KT.of_below b), h.bel.trans (b.mono h.size), Nat.le_trans h.size b.size⟩
/-- The bytes of digest k of a path in memory. -/
theorem path_cells {w : World} {base : Nat} {v : Value} {p : List (List UInt8)} (h : PathAt w base v p) (k : Nat) (hk : k < p.length) :
    ∃ g c cs, v = .slice (some ⟨g, 0, none⟩) p.length c ∧ w.heap[g]? = some (.cells cs 50 (0, 0)) ∧ p[k].length = 32 ∧ ∀ q, q < 32 → cs[k * 32 + q]? = some (.int .u8 (p[k][q]?.getD 0).toNat) := by
  obtain ⟨⟨h1, h2⟩, h3⟩ := h
  have h32 := h3 _ (List.getElem_mem hk)
  rcases h2 with ⟨_, h4⟩ | ⟨g, cap, cur, rfl, hb, hg, hc, hm, hs, ht⟩
  · omega
  · refine ⟨g, cap, cur, rfl, hg, h32, fun q hq => ?_⟩
    have hrow : ∀ (m : List (List UInt8)) (k q : Nat) (hk : k < m.length), (∀ d ∈ m, d.length = 32) → q < 32 → (digCells m)[k * 32 + q]? = some (.int .u8 (m[k][q]?.getD 0).toNat) := by
      intro m
      induction m with
      | nil => intro k q hk; simp at hk
      | cons a r ih =>
        intro k q hk hd hq
        have ha := hd a (by simp)
        have e : digCells (a :: r) = cellsOfBytes a ++ digCells r := by simp [digCells]
        have el : (cellsOfBytes a).length = 32 := by simp [cellsOfBytes, ha]
        rw [e]
        cases k with
        | zero =>
          rw [Nat.zero_mul, Nat.zero_add, List.getElem?_append_left (by omega)]
          simp only [cellsOfBytes, List.getElem?_map, List.getElem_cons_zero]
          rw [List.getElem?_eq_getElem (by omega)]
          rfl
        | succ k =>
          rw [List.getElem?_append_right (by omega), el, show (k + 1) * 32 + q - 32 = k * 32 + q by omega, ih k q (by simpa using hk) (fun d hd2 => hd d (by simp [hd2])) hq]
          rfl
    rw [← hrow p k q hk h3 hq, ← ht, List.getElem?_take, if_pos (by omega), Array.getElem?_toList]
end Go.Proofs.YtedfhallhpkkhaaGreatDoor.X
