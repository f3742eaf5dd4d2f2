/- Encodings: what a reader takes is the encoding of what it gives. -/
import Derived.Test.YtedfhallhpkkhaaGreatDoorZ5
set_option linter.unusedVariables false
set_option linter.unusedSimpArgs false
namespace Go.Proofs.YtedfhallhpkkhaaGreatDoor.X

def encN (n : Nat) : List UInt8 := if h : n < 128 then [UInt8.ofNat n] else UInt8.ofNat (n % 128 + 128) :: encN (n / 128)
  termination_by n
  decreasing_by omega
def encT (l : List UInt8) : List UInt8 := encN l.length ++ l
theorem encN_lt {n : Nat} (h : n < 128) : encN n = [UInt8.ofNat n] := by rw [encN, dif_pos h]
theorem encN_ge {n : Nat} (h : ¬ n < 128) : encN n = UInt8.ofNat (n % 128 + 128) :: encN (n / 128) := by rw [encN, dif_neg h]
theorem grp_enc (bs : List UInt8) : ∀ (i acc n k : Nat), grpF bs i acc = (n, k, 0) → ∃ m, n = acc + m * 2 ^ (7 * i) ∧ k = i + (encN m).length ∧ bs.take (encN m).length = encN m ∧ (m = 0 → i = 0) := by
  induction bs with
  | nil =>
    intro i acc n k h
    simp only [grpF, Prod.mk.injEq] at h
    obtain ⟨_, _, h⟩ := h
    split at h <;> omega
  | cons b r ih =>
    intro i acc n k h
    rw [grpF] at h
    split at h
    · simp at h
    · split at h
      · rename_i hb
        split at h
        · simp at h
        · rename_i h0
          simp only [Prod.mk.injEq, and_true] at h
          obtain ⟨rfl, rfl⟩ := h
          refine ⟨b.toNat, by rw [Nat.mod_eq_of_lt hb], by rw [encN_lt hb]; rfl, by rw [encN_lt hb]; simp, fun h1 => ?_⟩
          omega
      · rename_i hb
        obtain ⟨m, h1, h2, h3, h4⟩ := ih _ _ _ _ h
        have hm : m ≠ 0 := fun e => by have := h4 e; omega
        have hb2 : b.toNat < 256 := b.toNat_lt
        have hg : ¬ b.toNat % 128 + 128 * m < 128 := by omega
        have e1 : (b.toNat % 128 + 128 * m) % 128 = b.toNat % 128 := by omega
        have e2 : (b.toNat % 128 + 128 * m) / 128 = m := by omega
        have e3 : UInt8.ofNat (b.toNat % 128 + 128) = b := by
          rw [show b.toNat % 128 + 128 = b.toNat by omega]
          simp
        refine ⟨b.toNat % 128 + 128 * m, ?_, ?_, ?_, fun h => by omega⟩
        · rw [h1, show 7 * (i + 1) = 7 + 7 * i by omega, Nat.pow_add, Nat.add_mul]
          have : m * (2 ^ 7 * 2 ^ (7 * i)) = 128 * m * 2 ^ (7 * i) := by rw [← Nat.mul_assoc, Nat.mul_comm m]
          omega
        · rw [encN_ge hg, e2, h2, List.length_cons]; omega
        · rw [encN_ge hg, e1, e2, e3, List.length_cons, List.take_succ_cons, h3]
theorem take_more {bs : List UInt8} {i : Nat} {e : List UInt8} (h : (bs.drop i).take e.length = e) : bs.take (i + e.length) = bs.take i ++ e := by
  rw [List.take_add, h]
theorem rdNum_enc {bs : List UInt8} {i j n : Nat} {f most : Int} (h : rdNum bs i f most = (n, j, 0)) : f = 0 ∧ (n : Int) ≤ most ∧ bs.take j = bs.take i ++ encN n ∧ n < 2 ^ 63 := by
  unfold rdNum at h
  by_cases hf : f = 0
  · rw [if_pos hf] at h
    have hg := grpF_lt (bs.drop i) 0 0 (by decide) (by decide)
    split at h
    · rename_i h0
      simp only [Prod.mk.injEq, and_true] at h
      obtain ⟨h1, h2⟩ := h
      unfold numF at h0 h1 h2
      split at h0
      · simp at h0
      · rename_i hm
        rw [if_neg hm] at h1 h2
        obtain ⟨m, e1, e2, e3, e4⟩ := grp_enc (bs.drop i) 0 0 n (grpF (bs.drop i) 0 0).2.1 (by rw [← h1, ← h0])
        simp only [Nat.mul_zero, Nat.pow_zero, Nat.mul_one, Nat.zero_add] at e1 e2
        subst e1
        refine ⟨hf, ?_, ?_, ?_⟩
        · rcases Classical.em (most < (n : Int)) with h | h
          · exact absurd ⟨h0, by rw [h1]; exact h⟩ hm
          · omega
        · rw [← h2, e2]
          exact take_more e3
        · rw [← h1]; exact hg
    · rename_i h0
      simp only [Prod.mk.injEq] at h
      exact absurd h.2.2 h0
  · rw [if_neg hf] at h
    simp only [Prod.mk.injEq] at h
    exact absurd h.2.2 hf
theorem rdTxt_enc {bs l : List UInt8} {i j : Nat} {f most : Int} (h : rdTxt bs i f most = (l, j, 0)) : f = 0 ∧ (l.length : Int) ≤ most ∧ bs.take j = bs.take i ++ encT l ∧ l.length ≤ bs.length := by
  unfold rdTxt at h
  by_cases hf : f = 0
  · rw [if_pos hf] at h
    split at h
    · rename_i h0
      simp only [Prod.mk.injEq, and_true] at h
      obtain ⟨h1, h2⟩ := h
      unfold txtF at h0 h1 h2
      have hgl := grpF_size (bs.drop i) 0 0
      generalize hg : grpF (bs.drop i) 0 0 = g at h0 h1 h2 hgl
      obtain ⟨u, n, x⟩ := g
      simp only at h0 h1 h2 hgl
      split at h0
      · rename_i hx
        subst hx
        rw [if_pos rfl] at h1 h2
        split at h0
        · simp at h0
        · rename_i hm
          rw [if_neg hm] at h1 h2
          split at h0
          · simp at h0
          · rename_i hr
            rw [if_neg hr] at h1 h2
            simp only at h1 h2
            obtain ⟨m, e1, e2, e3, e4⟩ := grp_enc (bs.drop i) 0 0 u n hg
            simp only [Nat.mul_zero, Nat.pow_zero, Nat.mul_one, Nat.zero_add] at e1 e2
            subst e1
            have hl : l.length = u := by rw [← h1]; simp at hr hgl ⊢; omega
            refine ⟨hf, by omega, ?_, by rw [← h1]; simp; omega⟩
            rw [← h2, e2]
            unfold encT
            rw [hl]
            have e5 : ((bs.drop i).take ((encN u).length + u)) = encN u ++ l := by
              rw [List.take_add, e3, ← e2, h1]
            have := take_more (bs := bs) (i := i) (e := encN u ++ l) (by rw [List.length_append, hl]; exact e5)
            rw [List.length_append, hl] at this
            exact this
      · rename_i hx
        exact absurd h0 hx
    · rename_i h0
      simp only [Prod.mk.injEq] at h
      exact absurd h.2.2 h0
  · rw [if_neg hf] at h
    simp only [Prod.mk.injEq] at h
    exact absurd h.2.2 hf
theorem rdNum_le (bs : List UInt8) (i : Nat) (f most : Int) (hm : 0 ≤ most) : ((rdNum bs i f most).1 : Int) ≤ most := by
  by_cases h : (rdNum bs i f most).2.2 = 0
  · have := (rdNum_enc (bs := bs) (i := i) (f := f) (most := most) (n := (rdNum bs i f most).1) (j := (rdNum bs i f most).2.1) (by rw [← h])).2.1
    exact this
  · unfold rdNum at h ⊢
    split
    · split
      · rename_i h1 h2
        rw [if_pos h1, if_pos h2] at h
        exact absurd rfl h
      · simpa using hm
    · simpa using hm
theorem rdNum_fail {bs : List UInt8} {i : Nat} {f most : Int} (hf : f ≠ 0) : rdNum bs i f most = (0, i, f) := by unfold rdNum; rw [if_neg hf]
theorem rdTxt_fail {bs : List UInt8} {i : Nat} {f most : Int} (hf : f ≠ 0) : rdTxt bs i f most = ([], i, f) := by unfold rdTxt; rw [if_neg hf]
theorem rdTxt_len (bs : List UInt8) (i : Nat) (f most : Int) : (rdTxt bs i f most).1.length ≤ bs.length := by
  by_cases h : (rdTxt bs i f most).2.2 = 0
  · exact (rdTxt_enc (bs := bs) (i := i) (f := f) (most := most) (l := (rdTxt bs i f most).1) (j := (rdTxt bs i f most).2.1) (by rw [← h])).2.2.2
  · unfold rdTxt at h ⊢
    split
    · split
      · rename_i h1 h2
        rw [if_pos h1, if_pos h2] at h
        exact absurd rfl h
      · simp
    · simp
theorem rdNum_lt (bs : List UInt8) (i : Nat) (f most : Int) : (rdNum bs i f most).1 < 2 ^ 63 := by
  by_cases h : (rdNum bs i f most).2.2 = 0
  · exact (rdNum_enc (bs := bs) (i := i) (f := f) (most := most) (n := (rdNum bs i f most).1) (j := (rdNum bs i f most).2.1) (by rw [← h])).2.2.2
  · unfold rdNum at h ⊢
    split
    · split
      · rename_i h1 h2
        rw [if_pos h1, if_pos h2] at h
        exact absurd rfl h
      · simp
    · simp
theorem encN_len (n : Nat) : n < 2 ^ 64 → (encN n).length ≤ 10 := by
  have key : ∀ (k m : Nat), m < 128 ^ (k + 1) → (encN m).length ≤ k + 1 := by
    intro k
    induction k with
    | zero => intro m hm; rw [encN_lt (by simpa using hm)]; simp
    | succ k ih =>
      intro m hm
      by_cases h : m < 128
      · rw [encN_lt h]; simp
      · rw [encN_ge h, List.length_cons]
        have := ih (m / 128) (by rw [Nat.pow_succ] at hm; exact Nat.div_lt_of_lt_mul (by omega))
        omega
  intro h
  exact key 9 n (by omega)
end Go.Proofs.YtedfhallhpkkhaaGreatDoor.X
