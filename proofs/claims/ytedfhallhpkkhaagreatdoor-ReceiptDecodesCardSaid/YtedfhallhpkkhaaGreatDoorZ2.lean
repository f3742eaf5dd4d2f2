/- codec.Reader: Number. -/
import Derived.Test.YtedfhallhpkkhaaGreatDoorZ1
import Derived.Deep.RegionWith
import Derived.Maps.AppendAt
set_option linter.unusedVariables false
set_option linter.unusedSimpArgs false
namespace Go.Proofs.YtedfhallhpkkhaaGreatDoor.X
open Go Go.RowKit

/-- What Number's reader of a value gives. -/
def numF (bs : List UInt8) (most : Int) : Nat × Nat × Int :=
  if (grpF bs 0 0).2.2 = 0 ∧ most < ((grpF bs 0 0).1 : Int) then (0, 0, 2) else grpF bs 0 0
/-- Number: the number, the place behind it, the error. -/
def rdNum (bs : List UInt8) (i : Nat) (f : Int) (most : Int) : Nat × Nat × Int :=
  if f = 0 then (if (numF (bs.drop i) most).2.2 = 0 then ((numF (bs.drop i) most).1, i + (numF (bs.drop i) most).2.1, 0) else (0, i, (numF (bs.drop i) most).2.2)) else (0, i, f)

/-- A reader of bytes in block B, at place i, with error f, in block R. -/
structure Rd (w : World) (R B cap : Nat) (bs : List UInt8) (i : Nat) (f : Int) : Prop where
  obj : w.heap[R]? = some (.cells #[.slice (some ⟨B, 0, none⟩) bs.length cap, .int .i64 i, .int .i64 f] 189 (0, 0))
  row : ∃ cs fz, w.heap[B]? = some (.cells cs 5 fz) ∧ ∀ (j : Nat), j < bs.length → cs[j]? = some (.int .u8 (bs[j]?.getD 0).toNat)
  le : i ≤ bs.length
  cap : bs.length ≤ cap
  short : bs.length ≤ 1000000

set_option maxRecDepth 100000 in
set_option maxHeartbeats 1000000 in
theorem num1_any (B off cap M : Nat) (bs : List UInt8) (most : Int) (w : World) (hlen : bs.length ≤ 1000000)
    (hc : ∀ (i : Nat), i < bs.length → w.cell? ⟨B, off + i, none⟩ = some (.int .u8 (bs[i]?.getD 0).toNat)) (hm : w.cell? ⟨M, 0, none⟩ = some (.int .i64 most)) :
    Calls Tryz.prog 100 #[.slice (some ⟨B, off, none⟩) bs.length cap, .pointer (some ⟨M, 0, none⟩)] w fun e w' => w' = w ∧ e = .returned (.tuple #[.int .i64 (numF bs most).1, .int .i64 (numF bs most).2.1, .int .i64 (numF bs most).2.2]) := by
  have hC := parse_any B off cap bs w hlen hc
  clear hc
  unfold numF
  generalize grpF bs 0 0 = g at hC ⊢
  obtain ⟨u, n, x⟩ := g
  by_cases hx : x = 0
  · subst hx
    by_cases hu : most < (u : Int)
    · rw [if_pos ⟨rfl, hu⟩]
      go_enter Tryz.func100, Tryz.ntmps100
      go_wp2_with (go_at_call 98; refine hC.mono ?_; rintro e w' ⟨rfl, rfl⟩)
      go_ret3
      exact ⟨rfl, rfl⟩
    · rw [if_neg (fun h => hu h.2)]
      go_enter Tryz.func100, Tryz.ntmps100
      go_wp2_with (go_at_call 98; refine hC.mono ?_; rintro e w' ⟨rfl, rfl⟩)
      go_ret3
      exact ⟨rfl, rfl⟩
  · rw [if_neg (fun h => hx h.1)]
    have hx' : (x == 0) = false := by simpa using hx
    go_enter Tryz.func100, Tryz.ntmps100
    go_wp2_with (go_at_call 98; refine hC.mono ?_; rintro e w' ⟨rfl, rfl⟩)
    go_ret3
    exact ⟨rfl, rfl⟩
end Go.Proofs.YtedfhallhpkkhaaGreatDoor.X
