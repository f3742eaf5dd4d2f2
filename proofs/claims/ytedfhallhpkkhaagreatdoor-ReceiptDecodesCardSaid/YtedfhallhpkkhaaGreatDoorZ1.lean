/- codec.groups and codec.Parse: what they give on a row of bytes. -/
import Derived.WalkKit
import Derived.WalkSpells
import Derived.Test.YtedfhallhpkkhaaGreatDoorProg
set_option linter.unusedVariables false
set_option linter.unusedSimpArgs false
namespace Go.Proofs.YtedfhallhpkkhaaGreatDoor.X
open Go Go.RowKit

/-- The number at the beginning of bytes, the length of its encoding, and the error; so far: i bytes, their number. -/
def grpF : List UInt8 → Nat → Nat → Nat × Nat × Int
  | [], i, _ => (0, 0, if 9 ≤ i then 3 else 28)
  | b :: r, i, acc =>
    if i = 9 then (0, 0, 3)
    else if b.toNat < 128 then (if b.toNat = 0 ∧ 0 < i then (0, 0, 3) else (acc + b.toNat % 128 * 2 ^ (7 * i), i + 1, 0))
    else grpF r (i + 1) (acc + b.toNat % 128 * 2 ^ (7 * i))

theorem or_step (acc b i : Nat) (hi : i ≤ 8) (ha : acc < 2 ^ (7 * i)) (hb : b < 256) :
    bits .or .u64 (acc : Int) (IntKind.u64.wrap (IntKind.u64.wrap (bits .and .u8 (b : Int) 127) * 2 ^ (7 * i))) = ((acc + b % 128 * 2 ^ (7 * i) : Nat) : Int) := by
  have h1 : bits .and .u8 (b : Int) 127 = ((b % 128 : Nat) : Int) := by
    have := u8_and_nat b 127 hb (by decide)
    rw [show ((127 : Nat) : Int) = 127 from rfl] at this
    rw [this, Nat.and_two_pow_sub_one_eq_mod b 7]
  have hp : 2 ^ (7 * i) ≤ 2 ^ 56 := Nat.pow_le_pow_right (by decide) (by omega)
  have hm : b % 128 < 128 := Nat.mod_lt _ (by decide)
  have hlt : b % 128 * 2 ^ (7 * i) < 128 * 2 ^ 56 := by
    calc b % 128 * 2 ^ (7 * i) ≤ b % 128 * 2 ^ 56 := Nat.mul_le_mul_left _ hp
      _ < 128 * 2 ^ 56 := Nat.mul_lt_mul_of_pos_right hm (by decide)
  have w1 : IntKind.u64.wrap ((b % 128 : Nat) : Int) = ((b % 128 : Nat) : Int) := IntWalk.u64_in _ (by omega)
  have e2 : ((b % 128 : Nat) : Int) * 2 ^ (7 * i) = ((b % 128 * 2 ^ (7 * i) : Nat) : Int) := by push_cast; rfl
  have w2 : IntKind.u64.wrap ((b % 128 * 2 ^ (7 * i) : Nat) : Int) = ((b % 128 * 2 ^ (7 * i) : Nat) : Int) := IntWalk.u64_in _ (by omega)
  rw [h1, w1, e2, w2, bits_or_u64_nat acc (b % 128 * 2 ^ (7 * i)) (by omega) (by omega)]
  congr 1
  have := Nat.two_pow_add_eq_or_of_lt ha (b % 128)
  rw [Nat.mul_comm (b % 128), Nat.or_comm, ← this, Nat.add_comm]

set_option maxRecDepth 100000 in
set_option maxHeartbeats 1000000 in
theorem groups_any (B off cap : Nat) (bs : List UInt8) (w : World) (hlen : bs.length ≤ 1000000)
    (hc : ∀ (i : Nat), i < bs.length → w.cell? ⟨B, off + i, none⟩ = some (.int .u8 (bs[i]?.getD 0).toNat)) :
    Calls Tryz.prog 159 #[.slice (some ⟨B, off, none⟩) bs.length cap, .int .i64 9] w fun e w' => w' = w ∧ e = .returned (.tuple #[.int .u64 (grpF bs 0 0).1, .int .i64 (grpF bs 0 0).2.1, .int .i64 (grpF bs 0 0).2.2]) := by
  go_enter Tryz.func159, Tryz.ntmps159
  go_wp2
  go_loop [7, 12] (fun p q => ∃ (u i : Nat), p = .int .u64 u ∧ q = .int .i64 i ∧ i ≤ bs.length ∧ i ≤ 9 ∧ u < 2 ^ (7 * i) ∧ grpF (bs.drop i) i u = grpF bs 0 0) (fun _ q => bs.length + 1 - (RowKit.intOf q).toNat)
  case atStart => exact ⟨0, 0, rfl, rfl, by omega, by omega, by decide, by simp⟩
  case round =>
    obtain ⟨u, i, rfl, rfl, hi, h9, hu, hg⟩ := hrel
    by_cases hl : i < bs.length
    · have hci := hc i hl
      rw [List.getElem?_eq_getElem hl, Option.getD_some] at hci
      obtain ⟨b, hbb⟩ : ∃ b, bs[i] = b := ⟨_, rfl⟩
      rw [hbb] at hci
      have hd : bs.drop i = b :: bs.drop (i + 1) := by rw [List.drop_eq_getElem_cons hl, hbb]
      rw [hd] at hg
      have hb : b.toNat < 256 := b.toNat_lt
      have h1 : (i : Int) < bs.length := by omega
      have h2 : (0 : Int) ≤ (i : Int) ∧ (i : Int) < bs.length := by omega
      clear hd
      by_cases a1 : i = 9
      · have hr : grpF bs 0 0 = (0, 0, 3) := by rw [← hg, grpF, if_pos a1]
        subst a1
        go_wp2
        go_ret3
        exact ⟨rfl, rfl⟩
      · have f1 : ((i : Int) == 9) = false := by simp; omega
        rw [grpF, if_neg a1] at hg
        have hstep := or_step u b.toNat i (by omega) hu hb
        by_cases a2 : b.toNat < 128
        · rw [if_pos a2] at hg
          have f2 : (b.toNat : Int) < 128 := by omega
          by_cases a4 : b.toNat = 0
          · rw [a4] at hg hstep
            by_cases a5 : 0 < i
            · have hr : grpF bs 0 0 = (0, 0, 3) := by rw [← hg, if_pos ⟨rfl, a5⟩]
              have f4 : (0 : Int) < (i : Int) := by omega
              clear hstep hg
              go_wp2
              go_ret3
              exact ⟨rfl, rfl⟩
            · have hr : grpF bs 0 0 = (u + 0 % 128 * 2 ^ (7 * i), i + 1, 0) := by rw [← hg, if_neg (fun h => a5 h.2)]
              have f4 : ¬ (0 : Int) < (i : Int) := by omega
              clear hg
              replace hstep : bits .or .u64 (u : Int) (IntKind.u64.wrap (IntKind.u64.wrap (bits .and .u8 0 127) * 2 ^ (7 * i))) = _ := hstep
              go_wp2
              go_ret3
              exact ⟨rfl, by simp⟩
          · have hr : grpF bs 0 0 = (u + b.toNat % 128 * 2 ^ (7 * i), i + 1, 0) := by rw [← hg, if_neg (fun h => a4 h.1)]
            clear hg
            go_wp2
            go_ret3
            exact ⟨rfl, by simp⟩
        · rw [if_neg a2] at hg
          have f2 : ¬ (b.toNat : Int) < 128 := by omega
          go_wp2
          go_round
          case rel =>
            refine ⟨u + b.toNat % 128 * 2 ^ (7 * i), i + 1, by push_cast; rfl, rfl, by omega, by omega, ?_, hg⟩
            have hm : b.toNat % 128 < 128 := Nat.mod_lt _ (by decide)
            have e : 2 ^ (7 * (i + 1)) = 128 * 2 ^ (7 * i) := by rw [show 7 * (i + 1) = 7 + 7 * i by omega, Nat.pow_add]
            rw [e]
            have : b.toNat % 128 * 2 ^ (7 * i) ≤ 127 * 2 ^ (7 * i) := Nat.mul_le_mul_right _ (by omega)
            omega
          case measure => simp [RowKit.intOf]; omega
    · have hie : i = bs.length := by omega
      have hd : bs.drop i = [] := by rw [hie]; simp
      rw [hd] at hg
      subst hie
      by_cases a1 : 9 ≤ bs.length
      · have hr : grpF bs 0 0 = (0, 0, 3) := by rw [← hg, grpF, if_pos a1]
        have f1 : (9 : Int) ≤ (bs.length : Int) := by omega
        clear hg hd
        go_wp2
        go_ret3
        exact ⟨rfl, rfl⟩
      · have hr : grpF bs 0 0 = (0, 0, 28) := by rw [← hg, grpF, if_neg a1]
        have f1 : ¬ (9 : Int) ≤ (bs.length : Int) := by omega
        clear hg hd
        go_wp2
        go_ret3
        exact ⟨rfl, rfl⟩
theorem grpF_lt (bs : List UInt8) : ∀ (i acc : Nat), i ≤ 9 → acc < 2 ^ (7 * i) → (grpF bs i acc).1 < 2 ^ 63 := by
  induction bs with
  | nil => intro i acc _ _; simp [grpF]
  | cons b r ih =>
    intro i acc hi ha
    rw [grpF]
    split
    · simp
    · rename_i h9
      have hm : b.toNat % 128 < 128 := Nat.mod_lt _ (by decide)
      have e : 2 ^ (7 * (i + 1)) = 128 * 2 ^ (7 * i) := by rw [show 7 * (i + 1) = 7 + 7 * i by omega, Nat.pow_add]
      have h2 : b.toNat % 128 * 2 ^ (7 * i) ≤ 127 * 2 ^ (7 * i) := Nat.mul_le_mul_right _ (by omega)
      have h3 : acc + b.toNat % 128 * 2 ^ (7 * i) < 2 ^ (7 * (i + 1)) := by rw [e]; omega
      split
      · split
        · simp
        · exact Nat.lt_of_lt_of_le h3 (Nat.pow_le_pow_right (by decide) (by omega))
      · exact ih (i + 1) _ (by omega) h3
set_option maxRecDepth 100000 in
set_option maxHeartbeats 1000000 in
theorem parse_any (B off cap : Nat) (bs : List UInt8) (w : World) (hlen : bs.length ≤ 1000000)
    (hc : ∀ (i : Nat), i < bs.length → w.cell? ⟨B, off + i, none⟩ = some (.int .u8 (bs[i]?.getD 0).toNat)) :
    Calls Tryz.prog 98 #[.slice (some ⟨B, off, none⟩) bs.length cap] w fun e w' => w' = w ∧ e = .returned (.tuple #[.int .i64 (grpF bs 0 0).1, .int .i64 (grpF bs 0 0).2.1, .int .i64 (grpF bs 0 0).2.2]) := by
  have hC := groups_any B off cap bs w hlen hc
  have hlt := grpF_lt bs 0 0 (by decide) (by decide)
  generalize grpF bs 0 0 = g at hC hlt ⊢
  obtain ⟨u, n, x⟩ := g
  have hw : IntKind.i64.wrap (u : Int) = u := IntWalk.i64_in _ (by simp only at hlt; omega)
  go_enter Tryz.func98, Tryz.ntmps98
  go_wp2_with (go_at_call 159; refine hC.mono ?_; rintro e w' ⟨rfl, rfl⟩)
  go_ret3
  exact ⟨rfl, rfl⟩
end Go.Proofs.YtedfhallhpkkhaaGreatDoor.X
