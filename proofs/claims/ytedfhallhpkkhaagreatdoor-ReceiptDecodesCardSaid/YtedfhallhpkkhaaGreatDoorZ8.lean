/- codec.natural, codec.Writer. -/
import Derived.Test.YtedfhallhpkkhaaGreatDoorZ6
import Derived.Test.YtedfhallhpkkhaaGreatDoorZ7
import Derived.Laws.BitsAllLaws
set_option linter.unusedVariables false
set_option linter.unusedSimpArgs false
namespace Go.Proofs.YtedfhallhpkkhaaGreatDoor.X
open Go Go.RowKit

theorem or128 (u : Nat) : bits .or .u8 ((u : Int) % 256) 128 = (((UInt8.ofNat (u % 128 + 128)).toNat : Nat) : Int) := by
  have e1 : (u : Int) % 256 = ((u % 256 : Nat) : Int) := by omega
  have e2 : (UInt8.ofNat (u % 128 + 128)).toNat = u % 128 + 128 := by
    rw [UInt8.toNat_ofNat']
    omega
  rw [e1, e2]
  have key : ∀ b : Fin 256, (b.val ||| 128) = b.val % 128 + 128 := by decide +kernel
  have h1 := u8_or_nat (u % 256) 128 (by omega) (by decide)
  rw [show ((128 : Nat) : Int) = 128 from rfl] at h1
  have h2 := key ⟨u % 256, by omega⟩
  simp only at h2
  rw [h1, h2]
  congr 1
  omega
theorem byte_lt (u : Nat) (h : u < 128) : (((UInt8.ofNat u).toNat : Nat) : Int) = (u : Int) := by
  rw [UInt8.toNat_ofNat']
  omega
theorem one_new (w : World) (b : UInt8) (v : Value) (hv : v = .int .u8 b.toNat) (t : TypeId) : ∀ (j : Nat) (u : Value), (cellsOfBytes [b])[j]? = some u → (w.alloc (.cells #[v] t)).cell? ((⟨w.heap.size, 0, none⟩ : Addr).add j) = some u := by
  intro j u h
  obtain ⟨h1, rfl⟩ := bytes_get [b] j u h
  obtain rfl : j = 0 := by simpa using h1
  rw [Addr.add_lit, cell_new, hv]
  rfl
theorem cellsOfBytes_append (a b : List UInt8) : cellsOfBytes (a ++ b) = cellsOfBytes a ++ cellsOfBytes b := by simp [cellsOfBytes]
theorem own_lt {w : World} {base : Nat} {e : TypeId} {size : Nat} {v : Value} {n : Nat} {xs : List Value} (h : w.ownsRow base e size v n xs) {j : Nat} (hj : v.ownBlock = some j) : base ≤ j := (h.lt j hj).1
theorem grown_own {w wr w1 : World} {e : TypeId} {size : Nat} {v : Value} {n : Nat} {xs : List Value} (hg : w.grownBy wr none) (o : Obj) (h : wr.ownsRow w.heap.size e size v n xs) (h1 : (wr.alloc o).grownBy w1 v.ownBlock) : w.grownBy w1 none :=
  (hg.trans (World.grownBy_alloc wr o none)).andThen h1 fun j hj => .inl (own_lt h hj)
set_option maxRecDepth 100000 in
set_option maxHeartbeats 1000000 in
theorem natural_any (n : Nat) (w : World) (hn : n < 2 ^ 63) :
    Calls Tryz.prog 113 #[.int .u64 n] w fun e w' => ∃ v, e = .returned v ∧ w'.ownsRow w.heap.size 5 1 v (encN n).length (cellsOfBytes (encN n)) ∧ v ≠ .slice none 0 0 ∧ w.grownBy w' none := by
  obtain ⟨i0, hi, hz0, hz1, hz2⟩ := info_parts Tryz.info5
  have hml : 1000000 ≤ maxLen := by decide
  have hlen := encN_len n (by omega)
  go_enter Tryz.func113, Tryz.ntmps113
  go_wp2
  go_loopw [0, 3] (fun p q wr => ∃ (u : Nat) (pre : List UInt8), p = .int .u64 u ∧ pre ++ encN u = encN n ∧ u < 2 ^ 63 ∧ wr.ownsRow w.heap.size 5 1 q pre.length (cellsOfBytes pre) ∧ w.grownBy wr none)
    (fun p _ _ => (RowKit.intOf p).toNat)
  case atStart => exact ⟨n, [], rfl, rfl, hn, World.ownsRow_nil _ _ _ _, World.grownBy.refl _ _⟩
  case round =>
    obtain ⟨u, pre, rfl, hp, hu, hown, hgr⟩ := hrel
    have hpl : pre.length ≤ 10 := by
      have : (pre ++ encN u).length = (encN n).length := by rw [hp]
      rw [List.length_append] at this
      omega
    have hsz := hgr.size
    by_cases h : u < 128
    · have h1 : ¬ (128 : Int) ≤ (u : Int) := by omega
      have hb := byte_lt u h
      rw [encN_lt h] at hp
      go_wp2_with (at_builtin; refine wpList_append_own _ rfl _ _ 63 rfl w.heap.size 5 i0 (.int .u8 0) 1 1 Tryz.underlying63 hi hz0 hz1 hz2 rfl (by decide) _ _ _ rfl (hown.alloc _) ⟨wr.heap.size, 0, none⟩ 1 1 (cellsOfBytes [UInt8.ofNat u]) rfl (by simp [cellsOfBytes]) (one_new _ _ _ (by rw [hb]) _) (bytes_one _) (by omega) (by omega) (by simp; omega) ?_)
      intro v' w1 hown' hgrow hnil
      rw [← cellsOfBytes_append, hp] at hown'
      have hl : pre.length + 1 = (encN n).length := by rw [← hp]; simp
      rw [hl] at hown'
      go_wp2
      go_ret
      exact ⟨v', rfl, hown', hnil, grown_own hgr _ hown hgrow⟩
    · have h1 : (128 : Int) ≤ (u : Int) := by omega
      have hb := or128 u
      rw [encN_ge h] at hp
      go_wp2_with (at_builtin; refine wpList_append_own _ rfl _ _ 63 rfl w.heap.size 5 i0 (.int .u8 0) 1 1 Tryz.underlying63 hi hz0 hz1 hz2 rfl (by decide) _ _ _ rfl (hown.alloc _) ⟨wr.heap.size, 0, none⟩ 1 1 (cellsOfBytes [UInt8.ofNat (u % 128 + 128)]) rfl (by simp [cellsOfBytes]) (one_new _ _ _ (by first | rw [hb] | rfl) _) (bytes_one _) (by omega) (by omega) (by simp; omega) ?_)
      intro v' w1 hown' hgrow hnil
      rw [← cellsOfBytes_append] at hown'
      go_wp2
      go_round
      case rel =>
        refine ⟨u / 128, pre ++ [UInt8.ofNat (u % 128 + 128)], by simp, by rw [← hp]; simp, by omega, by simpa using hown', grown_own hgr _ hown hgrow⟩
      case measure => simp [RowKit.intOf]; omega
end Go.Proofs.YtedfhallhpkkhaaGreatDoor.X
