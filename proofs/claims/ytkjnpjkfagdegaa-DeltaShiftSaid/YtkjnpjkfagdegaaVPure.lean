/- Numbers as bytes, seven bits each: plain. -/
import Derived.Test.YtkjnpjkfagdegaaBytes
namespace Go.Proofs.Ytkjnpjkfagdegaa
/-- a number's bytes -/
def vb (n : Nat) : List UInt8 := if h : n < 128 then [UInt8.ofNat n] else UInt8.ofNat (n % 128 + 128) :: vb (n / 128)
termination_by n
decreasing_by omega
theorem vb_small {n : Nat} (h : n < 128) : vb n = [UInt8.ofNat n] := by rw [vb, dif_pos h]
theorem vb_big {n : Nat} (h : ¬ n < 128) : vb n = UInt8.ofNat (n % 128 + 128) :: vb (n / 128) := by rw [vb, dif_neg h]
theorem vb_pos (n : Nat) : 1 ≤ (vb n).length := by
  by_cases h : n < 128
  · rw [vb_small h]; simp
  · rw [vb_big h]; simp
theorem vb_len_le : ∀ (k n : Nat), n < 128 ^ (k + 1) → (vb n).length ≤ k + 1
  | 0, n, h => by rw [vb_small (by simpa using h)]; simp
  | k + 1, n, h => by
    by_cases h1 : n < 128
    · rw [vb_small h1]; simp
    · rw [vb_big h1, List.length_cons]
      have := vb_len_le k (n / 128) (by rw [Nat.div_lt_iff_lt_mul (by omega), ← Nat.pow_succ]; exact h)
      omega
theorem vb_len10 (n : Nat) (h : n < 18446744073709551616) : (vb n).length ≤ 10 := vb_len_le 9 n (Nat.lt_of_lt_of_le h (by decide))
theorem vb_mono : ∀ {a b : Nat}, a ≤ b → (vb a).length ≤ (vb b).length := by
  intro a b
  induction b using Nat.strongRecOn generalizing a with
  | ind b ih =>
    intro h
    by_cases ha : a < 128
    · rw [vb_small ha]; exact vb_pos b
    · rw [vb_big ha, vb_big (show ¬ b < 128 by omega), List.length_cons, List.length_cons]
      have := ih (b / 128) (by omega) (a := a / 128) (Nat.div_le_div_right h)
      omega
/-- as many as there are groups of seven bits -/
theorem vb_log : ∀ (n : Nat), 0 < n → (vb n).length = (n.log2 + 7) / 7 := by
  intro n
  induction n using Nat.strongRecOn with
  | ind n ih =>
    intro h
    by_cases h1 : n < 128
    · have : n.log2 < 7 := (Nat.log2_lt (by omega)).2 h1
      rw [vb_small h1]; simp; omega
    · rw [vb_big h1, List.length_cons, ih (n / 128) (by omega) (by omega)]
      have e : (n / 128).log2 = n.log2 - 7 := by
        have h7 : 7 ≤ n.log2 := (Nat.le_log2 (by omega)).2 (by omega)
        have l1 := Nat.log2_self_le (n := n) (by omega)
        have l2 := Nat.lt_log2_self (n := n)
        apply (Nat.log2_eq_iff (by omega)).2
        have e1 : 2 ^ n.log2 = 2 ^ (n.log2 - 7) * 128 := by rw [show (128 : Nat) = 2 ^ 7 from rfl, ← Nat.pow_add]; congr 1; omega
        have e2 : 2 ^ (n.log2 + 1) = 2 ^ (n.log2 - 7 + 1) * 128 := by rw [show (128 : Nat) = 2 ^ 7 from rfl, ← Nat.pow_add]; congr 1; omega
        rw [e1] at l1
        rw [e2] at l2
        exact ⟨by rw [Nat.le_div_iff_mul_le (by omega)]; exact l1, by rw [Nat.div_lt_iff_lt_mul (by omega)]; exact l2⟩
      have h7 : 7 ≤ n.log2 := (Nat.le_log2 (by omega)).2 (by omega)
      rw [e]; omega

/-- the number that stands at a, an error, the place behind what was looked at -/
def vgo (l : List UInt8) (a : Nat) : Nat → Nat → Nat → Nat × Nat × Nat
  | 0, k, _ => (0, 3, a + k)
  | f + 1, k, n =>
    if l.length ≤ a + k then (0, 2, l.length)
    else if 0 < k ∧ (l.getD (a + k) 0).toNat = 0 ∨ k = 9 ∧ 1 < (l.getD (a + k) 0).toNat then (0, 3, a + k + 1)
    else if (l.getD (a + k) 0).toNat < 128 then (n + (l.getD (a + k) 0).toNat * 128 ^ k, 0, a + k + 1)
    else vgo l a f (k + 1) (n + ((l.getD (a + k) 0).toNat - 128) * 128 ^ k)
def vrd (l : List UInt8) (a : Nat) : Nat × Nat × Nat := vgo l a 10 0 0
/-- what k bytes from a on come to -/
def vsum (l : List UInt8) (a : Nat) : Nat → Nat
  | 0 => 0
  | k + 1 => vsum l a k + (l.getD (a + k) 0).toNat % 128 * 128 ^ k
theorem vsum_lt (l : List UInt8) (a : Nat) : ∀ k, vsum l a k < 128 ^ k
  | 0 => by simp [vsum]
  | k + 1 => by
    have h := vsum_lt l a k
    have : (l.getD (a + k) 0).toNat % 128 * 128 ^ k ≤ 127 * 128 ^ k := Nat.mul_le_mul_right _ (by omega)
    rw [vsum, Nat.pow_succ]; omega
theorem pow128_9 : (128 : Nat) ^ 9 = 9223372036854775808 := by decide
theorem vgo_facts (l : List UInt8) (a : Nat) (ha : a ≤ l.length) : ∀ f k n, f + k = 10 → a + k ≤ l.length → n < 128 ^ k →
    (vgo l a f k n).1 < 18446744073709551616 ∧ (vgo l a f k n).2.1 ≤ 3 ∧ a ≤ (vgo l a f k n).2.2 ∧ (vgo l a f k n).2.2 ≤ l.length
  | 0, k, n, hf, hk, hn => ⟨by simp [vgo], by simp [vgo], by simp [vgo], by simp [vgo]; omega⟩
  | f + 1, k, n, hf, hk, hn => by
    rw [vgo]
    split
    · exact ⟨by simp, by simp, ha, Nat.le_refl _⟩
    · split
      · exact ⟨by simp, by simp, by simp; omega, by simp; omega⟩
      · split
        · rename_i h1 h2 h3
          refine ⟨?_, by simp, by simp; omega, by simp; omega⟩
          show n + _ < _
          rcases Nat.lt_or_ge k 9 with h9 | h9
          · have e1 : (128 : Nat) ^ (k + 1) ≤ 128 ^ 9 := Nat.pow_le_pow_right (by omega) (by omega)
            have : (l.getD (a + k) 0).toNat * 128 ^ k ≤ 127 * 128 ^ k := Nat.mul_le_mul_right _ (by omega)
            rw [Nat.pow_succ, pow128_9] at e1
            omega
          · obtain rfl : k = 9 := by omega
            have : (l.getD (a + 9) 0).toNat * 128 ^ 9 ≤ 1 * 128 ^ 9 := Nat.mul_le_mul_right _ (by omega)
            rw [pow128_9] at this hn ⊢
            omega
        · rename_i h1 h2 h3
          refine vgo_facts l a ha f (k + 1) _ (by omega) (by omega) ?_
          have h := UInt8.toNat_lt (l.getD (a + k) 0)
          have : ((l.getD (a + k) 0).toNat - 128) * 128 ^ k ≤ 127 * 128 ^ k := Nat.mul_le_mul_right _ (by omega)
          rw [Nat.pow_succ]; omega
theorem vrd_facts (l : List UInt8) (a : Nat) (ha : a ≤ l.length) : (vrd l a).1 < 18446744073709551616 ∧ (vrd l a).2.1 ≤ 3 ∧ a ≤ (vrd l a).2.2 ∧ (vrd l a).2.2 ≤ l.length :=
  vgo_facts l a ha 10 0 0 (by omega) (by omega) (by simp)
/-- a number's bytes, read -/
theorem vgo_vb {a : Nat} (p q : List UInt8) : ∀ (n f k m : Nat), f + k = 10 → n * 128 ^ k < 18446744073709551616 → (0 < k → 0 < n) →
    ∀ (l : List UInt8), l = p ++ (vb n) ++ q → p.length = k + a → vgo l a f k m = (m + n * 128 ^ k, 0, a + k + (vb n).length) := by
  intro n
  induction n using Nat.strongRecOn generalizing p with
  | ind n ih =>
    intro f k m hf hn h0 l hl hp
    have hk : k ≤ 9 := by
      rcases Nat.eq_zero_or_pos k with h | h
      · omega
      · rcases Nat.lt_or_ge 9 k with h9 | h9
        · have : (128 : Nat) ^ 10 ≤ 128 ^ k := Nat.pow_le_pow_right (by omega) h9
          have h2 : 1 * 128 ^ k ≤ n * 128 ^ k := Nat.mul_le_mul_right _ (h0 h)
          have h3 : (128 : Nat) ^ 10 = 1180591620717411303424 := by decide
          omega
        · exact h9
    have h9 : k = 9 → n ≤ 1 := by
      rintro rfl
      rw [pow128_9] at hn; omega
    obtain ⟨f, rfl⟩ : ∃ g, f = g + 1 := ⟨f - 1, by omega⟩
    have hlen : l.length = a + k + (vb n).length + q.length := by rw [hl]; simp; omega
    have hvp := vb_pos n
    rw [vgo, if_neg (by omega)]
    by_cases h1 : n < 128
    · have hg : (l.getD (a + k) 0).toNat = n := by
        rw [hl, vb_small h1, List.getD_eq_getElem?_getD, List.append_assoc, List.getElem?_append_right (by omega), show a + k - p.length = 0 by omega]
        simp; omega
      rw [hg, if_neg (by intro h; rcases h with ⟨h, h'⟩ | ⟨h, h'⟩; have := h0 h; omega; have := h9 h; omega), if_pos h1, vb_small h1]
      simp
    · have hg : (l.getD (a + k) 0).toNat = n % 128 + 128 := by
        rw [hl, vb_big h1, List.getD_eq_getElem?_getD, List.append_assoc, List.getElem?_append_right (by omega), show a + k - p.length = 0 by omega]
        simp; omega
      rw [hg, if_neg (by intro h; rcases h with ⟨h, h'⟩ | ⟨h, h'⟩; omega; have := h9 h; omega), if_neg (by omega)]
      have e := ih (n / 128) (by omega) (p ++ [UInt8.ofNat (n % 128 + 128)]) f (k + 1) (m + (n % 128 + 128 - 128) * 128 ^ k) (by omega)
        (Nat.lt_of_le_of_lt (by rw [Nat.pow_succ, show n / 128 * (128 ^ k * 128) = (n / 128 * 128) * 128 ^ k by rw [Nat.mul_comm (128 ^ k), Nat.mul_assoc]]; exact Nat.mul_le_mul_right _ (by omega)) hn)
        (fun _ => by omega) l (by rw [hl, vb_big h1]; simp) (by simp; omega)
      rw [e, vb_big h1, List.length_cons]
      refine Prod.ext ?_ (Prod.ext rfl ?_)
      · show m + (n % 128 + 128 - 128) * 128 ^ k + n / 128 * 128 ^ (k + 1) = m + n * 128 ^ k
        rw [Nat.add_sub_cancel, Nat.pow_succ, Nat.add_assoc, show n / 128 * (128 ^ k * 128) = (n / 128 * 128) * 128 ^ k by rw [Nat.mul_comm (128 ^ k), Nat.mul_assoc], ← Nat.add_mul]
        congr 2; omega
      · show a + (k + 1) + (vb (n / 128)).length = a + k + ((vb (n / 128)).length + 1)
        omega
theorem vrd_vb (p q : List UInt8) (n : Nat) (hn : n < 18446744073709551616) : vrd (p ++ vb n ++ q) p.length = (n, 0, p.length + (vb n).length) := by
  have := vgo_vb (a := p.length) p q n 10 0 0 (by omega) (by simpa using hn) (by omega) _ rfl (by omega)
  unfold vrd
  rw [this]; simp
theorem vb_inj (a b : Nat) (ha : a < 18446744073709551616) (hb : b < 18446744073709551616) (q : List UInt8) (h : vb a ++ q = vb b) : a = b := by
  have h1 := vrd_vb [] q a ha
  have h2 := vrd_vb [] [] b hb
  simp only [List.nil_append, List.append_nil] at h1 h2
  rw [h, h2] at h1
  exact (congrArg Prod.fst h1).symm
end Go.Proofs.Ytkjnpjkfagdegaa
