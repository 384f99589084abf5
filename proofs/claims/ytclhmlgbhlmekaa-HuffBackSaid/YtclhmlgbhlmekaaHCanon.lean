/- Layer 7: what the codes are: plain. -/
import Derived.Test.YtclhmlgbhlmekaaHBook
namespace Go.Proofs.Ytclhmlgbhlmekaa
open Go.RowKit
set_option linter.unusedVariables false
set_option linter.unusedSimpArgs false
/-- how many of the first i lengths are k -/
def nOf (t : Nat → Nat) (k : Nat) : Nat → Nat
  | 0 => 0
  | i + 1 => nOf t k i + (if t i = k then 1 else 0)
/-- what stands behind the codes of k bits and fewer -/
def eOf (t : Nat → Nat) : Nat → Nat
  | 0 => 0
  | k + 1 => eOf t k * 2 + nOf t (k + 1) 256
theorem nOf_mono (t : Nat → Nat) (k : Nat) {i j : Nat} (h : i ≤ j) : nOf t k i ≤ nOf t k j := by
  induction j with
  | zero => rw [Nat.le_zero.1 h]; exact Nat.le_refl _
  | succ j ih =>
    by_cases e : i = j + 1
    · rw [e]; exact Nat.le_refl _
    · rw [nOf]; have := ih (by omega); omega
theorem nOf_lt (t : Nat → Nat) (k : Nat) {i j : Nat} (h : i < j) (hi : t i = k) : nOf t k i < nOf t k j := by
  have h1 : nOf t k (i + 1) = nOf t k i + 1 := by rw [nOf, if_pos hi]
  have := nOf_mono t k (show i + 1 ≤ j by omega)
  omega
/-- the parts of the codes of k bits and fewer, of the first i -/
def sumK (t : Nat → Nat) (k : Nat) : Nat → Nat
  | 0 => 0
  | i + 1 => sumK t k i + (if 0 < t i ∧ t i ≤ k then 2 ^ (56 - t i) else 0)
theorem sumK_le (t : Nat → Nat) (k : Nat) : ∀ i, sumK t k i ≤ sumT t i
  | 0 => Nat.le_refl _
  | i + 1 => by
    have := sumK_le t k i
    rw [sumK, sumT]
    by_cases h : 0 < t i
    · have := Nat.two_pow_pos (56 - t i)
      rw [if_pos h]; split <;> omega
    · rw [if_neg h, if_neg (fun e => h e.1)]; omega
theorem sumK_zero (t : Nat → Nat) : ∀ i, sumK t 0 i = 0
  | 0 => rfl
  | i + 1 => by rw [sumK, sumK_zero t i, if_neg (by omega)]
theorem sumK_succ (t : Nat → Nat) (k : Nat) : ∀ i, sumK t (k + 1) i = sumK t k i + nOf t (k + 1) i * 2 ^ (56 - (k + 1))
  | 0 => by simp [sumK, nOf]
  | i + 1 => by
    rw [sumK, sumK, nOf, sumK_succ t k i, Nat.add_mul]
    by_cases h : t i = k + 1
    · rw [if_pos (by omega), if_neg (by omega), if_pos h, h]; omega
    · rw [if_neg h]
      by_cases h2 : 0 < t i ∧ t i ≤ k
      · rw [if_pos (by omega), if_pos h2]; omega
      · rw [if_neg (by omega), if_neg h2]; omega
theorem eOf_sum (t : Nat → Nat) : ∀ k, k ≤ 56 → eOf t k * 2 ^ (56 - k) = sumK t k 256
  | 0, _ => by rw [eOf, Nat.zero_mul, sumK_zero]
  | k + 1, h => by
    rw [eOf, sumK_succ, ← eOf_sum t k (by omega), Nat.add_mul, show 56 - k = 56 - (k + 1) + 1 by omega, Nat.pow_succ, Nat.mul_assoc, Nat.mul_comm 2 (2 ^ _)]
theorem eOf_le (t : Nat → Nat) (hs : sumT t 256 ≤ 72057594037927936) (k : Nat) (hk : k ≤ 56) : eOf t k ≤ 2 ^ k := by
  have h1 := eOf_sum t k hk
  have h2 := sumK_le t k 256
  have h3 : (72057594037927936 : Nat) = 2 ^ k * 2 ^ (56 - k) := by rw [← Nat.pow_add, show k + (56 - k) = 56 by omega]
  have h4 : eOf t k * 2 ^ (56 - k) ≤ 2 ^ k * 2 ^ (56 - k) := by rw [← h3, h1]; omega
  exact Nat.le_of_mul_le_mul_right h4 (Nat.two_pow_pos _)
theorem eOf_grow (t : Nat → Nat) (k : Nat) : ∀ d, eOf t k * 2 ^ d ≤ eOf t (k + d)
  | 0 => by simp
  | d + 1 => by
    have := eOf_grow t k d
    rw [← Nat.add_assoc, eOf, Nat.pow_succ, ← Nat.mul_assoc]
    omega
theorem cIn_eq (t : Nat → Nat) (k : Nat) (a : Nat) (c : Nat → Nat) : ∀ i, i ≤ 256 → a + nOf t (k + 1) 256 < 18446744073709551616 →
    cIn t k i (a, c) = (a + nOf t (k + 1) i, fun j => if j < i ∧ t j = k + 1 then a + nOf t (k + 1) j else c j)
  | 0, _, _ => by
    rw [cIn, nOf]
    simp
  | i + 1, hi, h => by
    have hm := nOf_mono t (k + 1) hi
    rw [cIn, cIn_eq t k a c i (by omega) h, nOf]
    by_cases e : t i = k + 1
    · rw [if_pos e, if_pos e]
      rw [nOf, if_pos e] at hm
      refine Prod.ext ?_ ?_
      · show (a + nOf t (k + 1) i + 1) % 18446744073709551616 = _
        rw [Nat.mod_eq_of_lt (by omega)]; omega
      · funext j
        show upd _ i (a + nOf t (k + 1) i) j = _
        unfold upd
        dsimp only
        by_cases ej : j = i
        · subst ej; rw [if_pos rfl, if_pos ⟨by omega, e⟩]
        · rw [if_neg ej]
          by_cases h2 : j < i ∧ t j = k + 1
          · rw [if_pos h2, if_pos ⟨by omega, h2.2⟩]
          · rw [if_neg h2, if_neg (fun h3 => h2 ⟨by omega, h3.2⟩)]
    · rw [if_neg e, if_neg e]
      refine Prod.ext rfl ?_
      funext j
      dsimp only
      by_cases h2 : j < i ∧ t j = k + 1
      · rw [if_pos h2, if_pos ⟨by omega, h2.2⟩]
      · rw [if_neg h2, if_neg (fun h3 => h2 ⟨by
          by_cases ej : j = i
          · subst ej; exact absurd h3.2 e
          · omega, h3.2⟩)]
/-- a code: what stands behind the shorter ones, and how many of its length are ahead of it -/
def codeOf (t : Nat → Nat) (j : Nat) : Nat := eOf t (t j - 1) * 2 + nOf t (t j) j
theorem cOut_eq (t : Nat → Nat) (hs : sumT t 256 ≤ 72057594037927936) : ∀ k, k ≤ 56 → cOut t k = (eOf t k, fun j => if j < 256 ∧ 0 < t j ∧ t j ≤ k then codeOf t j else 0)
  | 0, _ => by
    rw [cOut, eOf]
    refine Prod.ext rfl ?_
    funext j
    dsimp only
    rw [if_neg (by omega)]
  | k + 1, h => by
    have he := eOf_le t hs (k + 1) h
    rw [eOf] at he
    have hp : 2 ^ (k + 1) ≤ 2 ^ 56 := Nat.pow_le_pow_right (by omega) h
    have h56 : (2 : Nat) ^ 56 = 72057594037927936 := rfl
    rw [cOut, cOut_eq t hs k (by omega)]
    simp only
    rw [Nat.mod_eq_of_lt (by omega), cIn_eq t k _ _ 256 (Nat.le_refl _) (by omega), eOf]
    refine Prod.ext rfl ?_
    funext j
    dsimp only
    by_cases h2 : j < 256 ∧ t j = k + 1
    · rw [if_pos h2, if_pos ⟨h2.1, by omega, by omega⟩, codeOf, h2.2]; rfl
    · rw [if_neg h2]
      by_cases h3 : j < 256 ∧ 0 < t j ∧ t j ≤ k
      · rw [if_pos h3, if_pos ⟨h3.1, h3.2.1, by omega⟩]
      · rw [if_neg h3, if_neg (fun h4 => h3 ⟨h4.1, h4.2.1, by
          by_cases e : t j = k + 1
          · exact absurd ⟨h4.1, e⟩ h2
          · omega⟩)]
theorem codE_zero {t : Nat → Nat} (h : codE t = 0) : (∀ i, i < 256 → t i ≤ 56) ∧ sumT t 256 ≤ 72057594037927936 := by
  unfold codE at h
  by_cases hg : greatT t = true
  · rw [if_pos hg] at h; omega
  · rw [if_neg hg] at h
    refine ⟨fun i hi => ?_, ?_⟩
    · unfold greatT at hg
      rw [List.any_eq_true] at hg
      rcases Nat.lt_or_ge 56 (t i) with h1 | h1
      · exact absurd ⟨i, List.mem_range.2 hi, decide_eq_true h1⟩ hg
      · exact h1
    · split at h
      · omega
      · rename_i h2
        by_cases h3 : sumT t 256 = 72057594037927936
        · omega
        · by_cases h4 : 0 < cntT t 256
          · have : cntT t 256 = 1 ∧ sumT t 256 = 36028797018963968 := by
              rcases Decidable.em (cntT t 256 = 1 ∧ sumT t 256 = 36028797018963968) with h5 | h5
              · exact h5
              · exact absurd ⟨h4, h3, h5⟩ h2
            omega
          · have h5 : ∀ i, cntT t i = 0 → sumT t i = 0 := by
              intro i
              induction i with
              | zero => intro _; rfl
              | succ i ih =>
                intro h6
                rw [cntT] at h6
                rw [sumT, ih (by omega)]
                by_cases h7 : 0 < t i
                · rw [if_pos h7] at h6; omega
                · rw [if_neg h7]
            rw [h5 256 (by omega)]; omega
theorem codT_eq {t : Nat → Nat} (h : codE t = 0) {j : Nat} (hj : j < 256) (h0 : 0 < t j) : codT t j = codeOf t j := by
  obtain ⟨h1, h2⟩ := codE_zero h
  have := h1 j hj
  unfold codT
  rw [if_pos h, cOut_eq t h2 56 (Nat.le_refl _)]
  dsimp only
  rw [if_pos ⟨hj, h0, this⟩]
theorem codeOf_lt (t : Nat → Nat) {j : Nat} (hj : j < 256) (h0 : 0 < t j) : codeOf t j < eOf t (t j) := by
  obtain ⟨k, hk⟩ : ∃ k, t j = k + 1 := ⟨t j - 1, by omega⟩
  have := nOf_lt t (t j) hj rfl
  unfold codeOf
  rw [hk] at this ⊢
  rw [eOf, Nat.add_sub_cancel]; omega
theorem codT_bits {t : Nat → Nat} (h : codE t = 0) {j : Nat} (hj : j < 256) (h0 : 0 < t j) : codT t j < 2 ^ t j := by
  obtain ⟨h1, h2⟩ := codE_zero h
  rw [codT_eq h hj h0]
  have := codeOf_lt t hj h0
  have := eOf_le t h2 (t j) (h1 j hj)
  omega
/-- no code begins another one -/
theorem codT_free {t : Nat → Nat} (h : codE t = 0) {i j : Nat} (hi : i < 256) (hj : j < 256) (hij : i ≠ j) (h0 : 0 < t i) (hle : t i ≤ t j) : codT t j / 2 ^ (t j - t i) ≠ codT t i := by
  rw [codT_eq h hi h0, codT_eq h hj (by omega)]
  rcases Nat.lt_or_ge (t i) (t j) with hlt | hge
  · have h1 := codeOf_lt t hi h0
    have h2 := eOf_grow t (t i) (t j - 1 - t i)
    rw [show t i + (t j - 1 - t i) = t j - 1 by omega] at h2
    have h3 : eOf t (t i) * 2 ^ (t j - t i) ≤ codeOf t j := by
      rw [show t j - t i = (t j - 1 - t i) + 1 by omega, Nat.pow_succ, ← Nat.mul_assoc]
      unfold codeOf; omega
    have h4 : eOf t (t i) ≤ codeOf t j / 2 ^ (t j - t i) := (Nat.le_div_iff_mul_le (Nat.two_pow_pos _)).2 h3
    omega
  · have e : t i = t j := by omega
    rw [e, Nat.sub_self, Nat.pow_zero, Nat.div_one]
    unfold codeOf
    rw [e]
    rcases Nat.lt_or_ge i j with h5 | h5
    · have := nOf_lt t (t j) h5 e; omega
    · have := nOf_lt t (t j) (show j < i by omega) rfl; omega
theorem apart_codT {t : Nat → Nat} (h : codE t = 0) : Apart t (codT t) := fun i j hi hj h0 e1 e2 => by
  rcases Decidable.em (i = j) with h1 | h1
  · exact h1
  · have := codT_free h hi hj h1 h0 (by omega)
    rw [← e1, Nat.sub_self, Nat.pow_zero, Nat.div_one] at this
    exact absurd e2.symm this
end Go.Proofs.Ytclhmlgbhlmekaa
