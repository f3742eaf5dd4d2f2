/- codec.Reader: Text. -/
import Derived.Test.YtedfhallhpkkhaaGreatDoorZ3
import Derived.Laws.IdiomStrings
set_option linter.unusedVariables false
set_option linter.unusedSimpArgs false
namespace Go.Proofs.YtedfhallhpkkhaaGreatDoor.X
open Go Go.RowKit

/-- What Text's reader of a value gives. -/
def txtF (bs : List UInt8) (most : Int) : List UInt8 × Nat × Int :=
  if (grpF bs 0 0).2.2 = 0 then
    (if most < ((grpF bs 0 0).1 : Int) then ([], 0, 5)
     else if (bs.length : Int) - (grpF bs 0 0).2.1 < (grpF bs 0 0).1 then ([], 0, 28)
     else ((bs.drop (grpF bs 0 0).2.1).take (grpF bs 0 0).1, (grpF bs 0 0).2.1 + (grpF bs 0 0).1, 0))
  else ([], 0, (grpF bs 0 0).2.2)
/-- Text: the bytes, the place behind them, the error. -/
def rdTxt (bs : List UInt8) (i : Nat) (f : Int) (most : Int) : List UInt8 × Nat × Int :=
  if f = 0 then (if (txtF (bs.drop i) most).2.2 = 0 then ((txtF (bs.drop i) most).1, i + (txtF (bs.drop i) most).2.1, 0) else ([], i, (txtF (bs.drop i) most).2.2)) else ([], i, f)
abbrev str (l : List UInt8) : Value := .string ⟨l.toArray⟩

set_option maxRecDepth 100000 in
set_option maxHeartbeats 4000000 in
theorem text1_any (B off cap M : Nat) (bs : List UInt8) (most : Int) (w : World) (hlen : bs.length ≤ 1000000) (hcap : bs.length ≤ cap) (hmost : ¬ (16777216 < most))
    (hc : ∀ (i : Nat), i < bs.length → w.cell? ⟨B, off + i, none⟩ = some (.int .u8 (bs[i]?.getD 0).toNat)) (hm : w.cell? ⟨M, 0, none⟩ = some (.int .i64 most)) :
    Calls Tryz.prog 97 #[.slice (some ⟨B, off, none⟩) bs.length cap, .pointer (some ⟨M, 0, none⟩)] w fun e w' => w' = w ∧ e = .returned (.tuple #[str (txtF bs most).1, .int .i64 (txtF bs most).2.1, .int .i64 (txtF bs most).2.2]) := by
  have hC := parse_any B off cap bs w hlen hc
  have hsz := grpF_size bs 0 0
  have hlt := grpF_lt bs 0 0 (by decide) (by decide)
  unfold txtF
  generalize hgr : grpF bs 0 0 = g at hC hsz hlt ⊢
  obtain ⟨u, n, x⟩ := g
  simp only [Nat.zero_add] at hsz hlt hC ⊢
  clear hgr
  by_cases hx : x = 0
  · subst hx
    simp only [if_true]
    by_cases h1 : most < (u : Int)
    · rw [if_pos h1]
      clear hc
      go_enter Tryz.func97, Tryz.ntmps97
      go_wp2_with (go_at_call 98; refine hC.mono ?_; rintro e w' ⟨rfl, rfl⟩)
      go_ret3
      exact ⟨rfl, rfl⟩
    · rw [if_neg h1]
      have hw : IntKind.i64.wrap ((bs.length : Int) - (n : Int)) = (bs.length : Int) - n := IntWalk.i64_in _ (by omega)
      by_cases h2 : (bs.length : Int) - (n : Int) < (u : Int)
      · rw [if_pos h2]
        clear hc
        go_enter Tryz.func97, Tryz.ntmps97
        go_wp2_with (go_at_call 98; refine hC.mono ?_; rintro e w' ⟨rfl, rfl⟩)
        go_ret3
        exact ⟨rfl, rfl⟩
      · rw [if_neg h2]
        have hv : IntKind.i64.wrap ((n : Int) + (u : Int)) = (n : Int) + u := IntWalk.i64_in _ (by omega)
        by_cases h3 : cap = n
        · have hu : u = 0 := by omega
          have kc : ∀ A c, (convert 63 9 (.slice (some A) 0 c)).run Tryz.prog w = .ok (str []) w := fun A c => by
            exact run_convert_bytes_back (P := Tryz.prog) w 63 9 5 A c [] Tryz.underlying63 Tryz.underlying5 Tryz.underlying9 (fun j hj => by simp at hj)
          have e0 : (bs.drop n).take u = [] := by rw [hu]; simp
          subst h3
          rw [e0]
          have hin : (cap : Int) + u ≤ 1000000 := by omega
          have hi5 : (cap : Int) + u ≤ cap := by omega
          clear hc hu e0
          go_enter Tryz.func97, Tryz.ntmps97
          go_wp2_with (go_at_call 98; refine hC.mono ?_; rintro e w' ⟨rfl, rfl⟩)
          go_ret3
          exact ⟨rfl, by simp⟩
        · have hl : ((bs.drop n).take u).length = u := by simp; omega
          have kc : ∀ c, (convert 63 9 (.slice (some ⟨B, off + n, none⟩) u c)).run Tryz.prog w = .ok (str ((bs.drop n).take u)) w := fun c => by
            have := run_convert_bytes_back (P := Tryz.prog) w 63 9 5 ⟨B, off + n, none⟩ c ((bs.drop n).take u) Tryz.underlying63 Tryz.underlying5 Tryz.underlying9 (fun j hj => by
              rw [hl] at hj
              have h := hc (n + j) (by omega)
              rw [Addr.add_lit, Nat.add_assoc, h]
              simp only [List.getElem_take, List.getElem_drop]
              rw [List.getElem?_eq_getElem (by omega)]
              rfl)
            rw [hl] at this
            exact this
          clear hc
          have hin : (n : Int) + u ≤ 1000000 := by omega
          have hi5 : (n : Int) + u ≤ cap := by omega
          go_enter Tryz.func97, Tryz.ntmps97
          go_wp2_with (go_at_call 98; refine hC.mono ?_; rintro e w' ⟨rfl, rfl⟩)
          go_ret3
          exact ⟨rfl, by simp⟩
  · rw [if_neg hx]
    have hx' : (x != 0) = true := by simpa using hx
    clear hc
    go_enter Tryz.func97, Tryz.ntmps97
    go_wp2_with (go_at_call 98; refine hC.mono ?_; rintro e w' ⟨rfl, rfl⟩)
    go_ret3
    exact ⟨rfl, rfl⟩
end Go.Proofs.YtedfhallhpkkhaaGreatDoor.X
