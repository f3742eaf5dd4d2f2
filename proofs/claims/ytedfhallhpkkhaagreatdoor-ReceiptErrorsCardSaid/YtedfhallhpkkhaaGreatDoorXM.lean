/- ReceiptErrors: for every place, every number and every digest the law returns true, and its arguments read as before; the variables that the row lists hold what the program's text lays. -/
import Derived.Test.YtedfhallhpkkhaaGreatDoorRows
import Derived.Test.YtedfhallhpkkhaaGreatDoorTie
import Derived.Test.YtedfhallhpkkhaaGreatDoorCards
import Derived.Test.YtedfhallhpkkhaaGreatDoorXK
import Derived.ProofKit
import Derived.LaidMore
import Derived.OpenShut
import Derived.Stop.Joined
import Derived.SevenTiedAt
import Derived.LaidSub
import Derived.Lib.LaidTab
set_option linter.unusedVariables false
set_option linter.unusedSimpArgs false
namespace Go.Proofs.YtedfhallhpkkhaaGreatDoor
set_option maxRecDepth 100000
open Go.ChangeShapes Go.WideShapes Go.ChangeAt Go.WideMaps Go.WideElems Go.RowKit

theorem own : ownKnob Tryz.prog.godebug = none := by kernel_rfl
theorem laidOut : laidOutB Tryz.prog = true := by kernel_rfl
abbrev laidAll : List (String × DataW Unit) := Rows.receiptErrorsRow.laid

/-! ### What the condition gives: the constants of SHA-256 -/
def kz : List Int := X.gconst.map fun v => RowKit.intOf v
theorem gConst : Tryz.prog.globalNamed "replevin/sha256.constants" = some 0 := by kernel_rfl
theorem laid_gok {W : World} (h : laidMetH Tryz.prog laidAll W) : X.GOk W.heap := by
  have h1 := laidMetH.filter (fun x => x.1 == "replevin/sha256.constants") h
  have h2 : laidMetH Tryz.prog [("replevin/sha256.constants", Lib.tabData .u32 kz)] W := h1
  rw [MakeChecks.laidMetH_plain _ _ _ (by kernel_rfl)] at h2
  have h3 := Lib.tabIs_of_head (t := 331) (e := 182) (n := 64) gConst (by kernel_rfl) (by kernel_rfl) (by kernel_rfl) (by kernel_rfl) (by kernel_rfl) h2
  unfold Lib.TabIs World.var? at h3
  rw [gConst] at h3
  simp only [Option.bind_some] at h3
  split at h3
  case h_2 => cases h3
  rename_i cs t f hc
  simp only [Option.some.injEq] at h3
  refine ⟨cs, t, f, hc, fun k v hk => ?_⟩
  rw [h3]
  have : (kz.map fun z => Value.int .u32 z) = X.gconst := by rfl
  rw [this]
  simpa using hk

/-! ### The arguments, opened -/
theorem size6 {cs : Array Value} (h : cs.size = 6) : ∃ c0 c1 c2 c3 c4 c5, cs = #[c0, c1, c2, c3, c4, c5] := by
  obtain ⟨l⟩ := cs
  match l, h with
  | [c0, c1, c2, c3, c4, c5], _ => exact ⟨c0, c1, c2, c3, c4, c5, rfl⟩
theorem len2 {α : Type} {l : List α} (h : l.length = 2) : ∃ a b, l = [a, b] := by
  match l, h with
  | [a, b], _ => exact ⟨a, b, rfl⟩
theorem len5 {α : Type} {l : List α} (h : l.length = 5) : ∃ a b c d e, l = [a, b, c, d, e] := by
  match l, h with
  | [a, b, c, d, e], _ => exact ⟨a, b, c, d, e, rfl⟩
theorem cells26 : Tryz.prog.cellsOf 26 = 6 := by kernel_rfl
theorem cells24 : Tryz.prog.cellsOf 24 = 5 := by kernel_rfl
theorem cells22 : Tryz.prog.cellsOf 22 = 1 := by kernel_rfl
theorem cells9 : Tryz.prog.cellsOf 9 = 1 := by kernel_rfl
theorem cells3 : Tryz.prog.cellsOf 3 = 1 := by kernel_rfl
theorem cells50 : Tryz.prog.cellsOf 50 = 32 := by kernel_rfl
theorem cells5 : Tryz.prog.cellsOf 5 = 1 := by kernel_rfl
section
variable {H : Type} {enc : TypeId × Value → H} {W w : World} {base b0 : Nat} {spare : Nat → Bool} {held : Bool} {r : Reach} {v : Value} {d : DataW H} {p : List MemPlace}
theorem open_place (hv : Value.okWide Tryz.prog W r b0 26 v) (h : DataW.Trod enc Tryz.prog w base spare held 26 v d p) :
    ∃ (k : Int) (o : ByteArray) (n i : Int) (t : ByteArray) (at' : Int), v = X.placeV k o n i t at' ∧ o.size ≤ maxLen ∧ t.size ≤ maxLen := by
  obtain ⟨cs, rfl, hsz⟩ := okWide_struct Tryz.underlying26 hv
  obtain ⟨c0, c1, c2, c3, c4, c5, rfl⟩ := size6 (hsz.trans cells26)
  obtain ⟨fuel, hf⟩ := h
  obtain ⟨xs, m, rfl, hx, hl, hxl, hel⟩ := DataW.trod_struct Tryz.underlying26 hf
  obtain ⟨y0, y1, rfl⟩ := len2 hxl
  have e0 := hel 0 ⟨ "Name", 24, 0, false, "", "", 0⟩ rfl
  have e1 := hel 1 ⟨ "At", 3, 5, false, "", "", 56⟩ rfl
  dsimp only at e0 e1
  rw [cells24] at e0
  rw [cells3] at e1
  replace e0 : DataW.trod enc Tryz.prog w base spare held m 24 [c0, c1, c2, c3, c4] = some y0 := e0
  replace e1 : DataW.trod enc Tryz.prog w base spare held m 3 [c5] = some y1 := e1
  obtain ⟨at', h5, _⟩ := DataW.trod_int Tryz.underlying3 e1
  obtain ⟨zs, m', rfl, hx', hl', hzl, hez⟩ := DataW.trod_struct Tryz.underlying24 e0
  obtain ⟨z0, z1, z2, z3, z4, rfl⟩ := len5 hzl
  have g0 := hez 0 ⟨ "Kind", 3, 0, false, "", "", 0⟩ rfl
  have g1 := hez 1 ⟨ "Owner", 22, 1, false, "", "", 8⟩ rfl
  have g2 := hez 2 ⟨ "Number", 3, 2, false, "", "", 24⟩ rfl
  have g3 := hez 3 ⟨ "Index", 3, 3, false, "", "", 32⟩ rfl
  have g4 := hez 4 ⟨ "Text", 9, 4, false, "", "", 40⟩ rfl
  dsimp only at g0 g1 g2 g3 g4
  rw [cells3] at g0 g2 g3
  rw [cells22] at g1
  rw [cells9] at g4
  replace g0 : DataW.trod enc Tryz.prog w base spare held m' 3 [c0] = some z0 := g0
  replace g1 : DataW.trod enc Tryz.prog w base spare held m' 22 [c1] = some z1 := g1
  replace g2 : DataW.trod enc Tryz.prog w base spare held m' 3 [c2] = some z2 := g2
  replace g3 : DataW.trod enc Tryz.prog w base spare held m' 3 [c3] = some z3 := g3
  replace g4 : DataW.trod enc Tryz.prog w base spare held m' 9 [c4] = some z4 := g4
  obtain ⟨k, q0, _⟩ := DataW.trod_int Tryz.underlying3 g0
  obtain ⟨o, q1, _, ho⟩ := DataW.trod_string Tryz.underlying22 g1
  obtain ⟨n, q2, _⟩ := DataW.trod_int Tryz.underlying3 g2
  obtain ⟨i, q3, _⟩ := DataW.trod_int Tryz.underlying3 g3
  obtain ⟨t, q4, _, ht⟩ := DataW.trod_string Tryz.underlying9 g4
  simp only [List.cons.injEq, and_true] at h5 q0 q1 q2 q3 q4
  subst h5 q0 q1 q2 q3 q4
  exact ⟨k, o, n, i, t, at', rfl, ho, ht⟩
theorem open_root (hv : Value.okWide Tryz.prog W r b0 50 v) (h : DataW.Trod enc Tryz.prog w base spare held 50 v d p) : ∃ q : Nat → Int, v = X.rootV q := by
  simp only [Value.okWide, Tryz.underlying50] at hv
  obtain ⟨cs, rfl, hsz, _⟩ := hv
  have hsz := hsz.trans cells50
  obtain ⟨fuel, hf⟩ := h
  obtain ⟨xs, m, rfl, hx, hl, hxl, hel⟩ := DataW.trod_array Tryz.underlying50 hf
  have hcell : ∀ i (hi : i < 32), cs[i]'(by omega) = .int .u8 (RowKit.intOf (cs.getD i undef)) := fun i hi => by
    have e := hel i hi
    rw [cells5, Nat.mul_one] at e
    have hc : ((Value.agg cs).cells.toList.drop i).take 1 = [cs[i]'(by omega)] := by
      show (cs.toList.drop i).take 1 = _
      rw [List.drop_eq_getElem_cons (by simp; omega)]
      simp
    rw [hc, List.getElem?_eq_getElem (by omega)] at e
    obtain ⟨n, hn, _⟩ := DataW.trod_int Tryz.underlying5 e
    simp only [List.cons.injEq, and_true] at hn
    rw [Array.getD_eq_getD_getElem?, Array.getElem?_eq_getElem (by omega), Option.getD_some, hn]
    rfl
  refine ⟨fun i => RowKit.intOf (cs.getD i undef), ?_⟩
  have : cs = ((List.range 32).map fun i => Value.int .u8 (RowKit.intOf (cs.getD i undef))).toArray := by
    apply Array.ext
    · simp [hsz]
    · intro i h1 h2
      rw [hcell i (by omega)]
      simp
  exact congrArg Value.agg this
end

theorem errors_lifted (os : Os) (started : os.Started) (H : Type) (enc : TypeId × Value → H) :
    ReturnsInHanded {} Tryz.checked os 5 .any (fun w args => (Rows.receiptErrorsSpec.pre enc Tryz.prog Tryz.f5 [] false w args ∧ laidMetH Tryz.prog laidAll w) ∧ sizedMet enc Tryz.prog Tryz.f5 (OpenSpec.ofChange Rows.receiptErrorsSpec) false w args)
      (Rows.receiptErrorsSpec.post enc Tryz.prog Tryz.f5 false true false false) := by
  refine returnsInHanded_of_change_and (C := Tryz.checked) (X := fun w _ => laidMetH Tryz.prog laidAll w) (fun _ _ _ hh h => h.of_heap hh) own started (by kernel_rfl) Tryz.func5
    (ChangeSpec.witness_shaped (enc := enc) (C := Tryz.checked) (os := os) (X := fun w _ => laidMetH Tryz.prog laidAll w) false (World.doorLaid Tryz.prog 67 os) #[X.placeV 0 ⟨#[]⟩ 0 0 ⟨#[]⟩ 0, .int .i64 0, X.rootV fun _ => 0] 8 rfl (World.shaped_of_RefB (by kernel_rfl) (by kernel_rfl)) (by kernel_rfl) (by kernel_rfl) (by kernel_rfl)
      (laidMetH_of_parts3 (fuel := 8) (laidMet_of_run' 8 (by kernel_rfl) (by kernel_rfl)) (by kernel_rfl) (by kernel_rfl))) ?_
  intro W base args ds gs before hval0 hW _ _ hL _
  have hval : ∀ (j : Nat) t v, Tryz.f5.params[j]? = some t → args[j]? = some v → Value.okWide Tryz.prog W .any base t v := hval0
  have hlt := hW.lt
  have hW' := hW
  obtain ⟨p, q, hA0, hV, rfl, hfz, hnd⟩ := hW
  have hA : DataW.TrodAll enc Tryz.prog W 0 (fun _ => true) true Tryz.f5.params.toList args.toList ds p := hA0
  rw [Tryz.params5] at hA hval
  obtain ⟨v0, v1, v2, d0, d1, d2, p0, p1, p2, rfl, rfl, rfl, h0, h1, h2⟩ := trodAll_three hA
  obtain ⟨rfl, rfl⟩ := trodVars_none hV
  obtain ⟨k, o, n, i, t, at', rfl, ho, ht⟩ := open_place (hval 0 26 v0 rfl rfl) h0
  obtain ⟨m, rfl, e1, e2, _⟩ := open_int Tryz.underlying3 (hval 1 3 v1 rfl rfl) h1
  obtain ⟨r, rfl⟩ := open_root (hval 2 50 v2 rfl rfl) h2
  have hml : maxLen ≤ 9223372036854775807 := by decide
  refine (callsIn_wide.1 (X.errors_in k n i at' m o t r (by omega) (by omega) W (laid_gok hL))).mono fun e W' ⟨he, hB⟩ => ?_
  subst he
  refine ⟨_, rfl, _, _, _, [], p0 ++ (p1 ++ p2), [], hW', trodAll_mk1 (shut_bool Tryz.underlying4 _), ?_, rfl, hB.frame _, fun h => by cases h⟩
  exact trodAll_mk3 (Below.trod laidOut (by kernel_rfl) (of_decide_eq_true (by kernel_rfl)) h0 hB fun x hx => hlt x (by simp [hx])) (Below.trod laidOut (by kernel_rfl) (of_decide_eq_true (by kernel_rfl)) h1 hB fun x hx => hlt x (by simp [hx])) (Below.trod laidOut (by kernel_rfl) (of_decide_eq_true (by kernel_rfl)) h2 hB fun x hx => hlt x (by simp [hx]))

end Go.Proofs.YtedfhallhpkkhaaGreatDoor
