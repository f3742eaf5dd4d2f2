/- receipt.Decode: for every string of up to 400 bytes an error, or a receipt of which the string is the encoding. -/
import Derived.Test.YtedfhallhpkkhaaGreatDoorZH
import Derived.Test.YtedfhallhpkkhaaGreatDoorZF
import Derived.Test.YtedfhallhpkkhaaGreatDoorXJ
set_option linter.unusedVariables false
set_option linter.unusedSimpArgs false
namespace Go.Proofs.YtedfhallhpkkhaaGreatDoor.X
open Go Go.RowKit

def Hdr.name (h : Hdr) : Value := .agg #[.int .i64 h.k, str h.o, .int .i64 h.n, .int .i64 h.i, str h.t]
def Hdr.nmp (h : Hdr) : NmP := ⟨h.k, h.o, h.n, h.i, h.t⟩
/-- A receipt that has an encoding. -/
structure HdrOk (h : Hdr) : Prop where
  chk : Fact Tryz.prog 43 [h.name] (.int .i64 0)
  hk : h.k ≤ 20
  hn : h.n < 2 ^ 63
  hi : h.i < 2 ^ 63
  ho : h.o.length ≤ 400
  ht : h.t.length ≤ 400
  hat : h.at' < 2 ^ 63
  hlen : h.len < 2 ^ 63
def encRc (h : Hdr) (l : List AcP) : List UInt8 := encT (encNm h.nmp) ++ encN h.at' ++ encN h.len ++ encN l.length ++ encAcs l
def DecodePost (s : List UInt8) (w : World) (e : Ending) (w' : World) : Prop :=
  Below w.heap.size w w' ∧ (e = .returned (.tuple #[zeroRc, .int .i64 3]) ∨ ∃ (h : Hdr) (v : Value) (l : List (AcP × Value)), e = .returned (.tuple #[.agg (h.cells v), .int .i64 0]) ∧ HdrOk h ∧ l.length ≤ 4096 ∧ ActsAt w' w.heap.size h.len v l ∧ (∀ a ∈ l, AcOk a.1) ∧ s = encRc h (l.map (·.1)))
theorem optTxt_len (c : Bool) (bs : List UInt8) (i : Nat) (f most : Int) : (optTxt c bs i f most).1.length ≤ bs.length := by
  cases c
  · simp [optTxt]
  · exact rdTxt_len bs i f most
theorem optNum_lt (c : Bool) (bs : List UInt8) (i : Nat) (f most : Int) : (optNum c bs i f most).1 < 2 ^ 63 := by
  cases c
  · simp [optNum]
  · exact rdNum_lt bs i f most
theorem decode_any (s : List UInt8) (w : World) (hg : GOk w.heap) (hs : s.length ≤ 400) : Calls Tryz.prog 10 #[str s] w (DecodePost s w) := by
  obtain ⟨⟨nt, i1, f1⟩, e1⟩ : ∃ r, rdTxt s 0 0 65536 = r := ⟨_, rfl⟩
  obtain ⟨⟨at', i2, f2⟩, e2⟩ : ∃ r, rdNum s i1 f1 9223372036854775807 = r := ⟨_, rfl⟩
  obtain ⟨⟨len, i3, f3⟩, e3⟩ : ∃ r, rdNum s i2 f2 9223372036854775807 = r := ⟨_, rfl⟩
  obtain ⟨⟨cnt, i4, f4⟩, e4⟩ : ∃ r, rdNum s i3 f3 4096 = r := ⟨_, rfl⟩
  have lnt := rdTxt_len s 0 0 65536
  have lat := rdNum_lt s i1 f1 9223372036854775807
  have llen := rdNum_lt s i2 f2 9223372036854775807
  have lcnt := rdNum_le s i3 f3 4096 (by decide)
  rw [e1] at lnt
  rw [e2] at lat
  rw [e3] at llen
  rw [e4] at lcnt
  simp only at lnt lat llen lcnt
  have hk : (nmK nt).1 ≤ 20 := by
    have := rdNum_le nt 0 0 20 (by decide)
    exact_mod_cast this
  obtain ⟨chk, _, hchk⟩ := check_any (nmK nt).1 (nmN nt).1 (nmI nt).1 ⟨(nmO nt).1.toArray⟩ ⟨(nmT nt).1.toArray⟩ (by
    have := optTxt_len (useO (nmK nt).1) nt (nmK nt).2.1 (nmK nt).2.2 nt.length
    rw [str_size]
    show (nmO nt).1.length ≤ _
    unfold nmO
    omega)
  have hdec : ∀ W : World, GOk W.heap → Calls Tryz.prog 33 #[str nt] W (DecPost (clsF nt (nmT nt).2.1 (nmT nt).2.2 = 0 ∧ chk = 0) (.agg #[.int .i64 (nmK nt).1, str (nmO nt).1, .int .i64 (nmN nt).1, .int .i64 (nmI nt).1, str (nmT nt).1]) W) := fun W hW =>
    dec1 usesVal (useO (nmK nt).1) (useN (nmK nt).1) (useT (nmK nt).1) (useM (nmK nt).1) (useW (nmK nt).1) nt (nmO nt).1 (nmT nt).1 (nmK nt).1 (nmN nt).1 (nmI nt).1 (nmK nt).2.1 (nmO nt).2.1 (nmN nt).2.1 (nmI nt).2.1 (nmT nt).2.1 (nmK nt).2.2 (nmO nt).2.2 (nmN nt).2.2 (nmI nt).2.2 (nmT nt).2.2 chk W (use_shp _ hk) hW (by omega)
      rfl rfl rfl rfl rfl _ (Lib.hid rfl) _ (Lib.hid Iff.rfl) hchk uses_fact (use_idx _ hk)
  by_cases hgd : clsF nt (nmT nt).2.1 (nmT nt).2.2 = 0 ∧ chk = 0
  · have hR := rdec1 s nt (nmO nt).1 (nmT nt).1 (nmK nt).1 (nmN nt).1 (nmI nt).1 at' len i1 i2 i3 i4 cnt f1 f2 f3 f4 0 w hg hs (Lib.hid e1) (fun W hW => (hdec W hW).mono fun e w' h => ⟨h.1 hgd, h.2.2⟩) (Lib.hid e2) (Lib.hid e3) (Lib.hid e4)
    refine hR.mono fun e w' ⟨hb, h⟩ => ⟨hb, ?_⟩
    rcases h with h | ⟨v, l, he, _, hl, ha, hok, hse⟩
    · exact .inl h
    · refine .inr ⟨_, v, l, he, ⟨?_, hk, optNum_lt _ _ _ _ _, optNum_lt _ _ _ _ _, ?_, ?_, lat, llen⟩, by omega, ha, hok, ?_⟩
      · rw [← hgd.2]; exact hchk
      · exact Nat.le_trans (optTxt_len _ _ _ _ _) (by omega)
      · exact Nat.le_trans (optTxt_len _ _ _ _ _) (by omega)
      · have := nm_enc nt hgd.1
        unfold encRc
        rw [List.length_map, hl]
        have h2 : encNm (Hdr.nmp ⟨(nmK nt).1, (nmO nt).1, (nmN nt).1, (nmI nt).1, (nmT nt).1, at', len⟩) = nt := this
        rw [h2]
        simpa [List.append_assoc] using hse
  · have hR := rdec1 s nt [] [] 0 0 0 at' len i1 i2 i3 i4 cnt f1 f2 f3 f4 3 w hg hs (Lib.hid e1) (fun W hW => (hdec W hW).mono fun e w' h => ⟨h.2.1 hgd, h.2.2⟩) (Lib.hid e2) (Lib.hid e3) (Lib.hid e4)
    refine hR.mono fun e w' ⟨hb, h⟩ => ⟨hb, ?_⟩
    rcases h with h | ⟨v, l, he, h3, _⟩
    · exact .inl h
    · cases h3
end Go.Proofs.YtedfhallhpkkhaaGreatDoor.X
