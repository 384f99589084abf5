/- Layer 3: a list, read. -/
import Derived.Test.YtkjnpjkfagdegaaDPrint
namespace Go.Proofs.Ytkjnpjkfagdegaa
open Go.RowKit
set_option linter.unusedVariables false
set_option linter.unusedSimpArgs false
theorem allLt_snoc (l : List Nat) (n : Nat) (h : AllLt l) (hn : n < 18446744073709551616) : AllLt (l ++ [n]) := by
  intro i hi
  rw [List.getD_eq_getElem?_getD]
  rcases Nat.lt_or_ge i l.length with h1 | h1
  · rw [List.getElem?_append_left h1, ← List.getD_eq_getElem?_getD]; exact h i h1
  · rw [List.getElem?_append_right h1]
    simp at hi
    rw [show i - l.length = 0 by omega]; simpa using hn
theorem allLt_nil : AllLt [] := fun i hi => by simp at hi
theorem vls_facts (l : List UInt8) : ∀ (n a : Nat) (acc : List Nat), AllLt acc → acc.length ≤ a → a ≤ l.length →
    AllLt (vls l n a acc).1 ∧ (vls l n a acc).1.length ≤ l.length ∧ (vls l n a acc).2.1 ≤ 3 ∧ a ≤ (vls l n a acc).2.2 ∧ (vls l n a acc).2.2 ≤ l.length
  | 0, a, acc, h1, h2, h3 => ⟨h1, by simp [vls]; omega, by simp [vls], by simp [vls], by simpa [vls] using h3⟩
  | n + 1, a, acc, h1, h2, h3 => by
    have hf := vrd_facts l a h3
    rw [vls]
    split
    · rename_i he
      have hadv := vrd_adv l a he
      have := vls_facts l n (vrd l a).2.2 (acc ++ [(vrd l a).1]) (allLt_snoc acc _ h1 hf.1) (by simp; omega) hf.2.2.2
      exact ⟨this.1, this.2.1, this.2.2.1, by omega, this.2.2.2.2⟩
    · exact ⟨allLt_nil, by simp, hf.2.1, hf.2.2.1, hf.2.2.2⟩
theorem vrl_facts (l : List UInt8) (a : Nat) (most : Int) (h : a ≤ l.length) : AllLt (vrl l a most).1 ∧ (vrl l a most).1.length ≤ l.length ∧ (vrl l a most).2.1 ≤ 4 ∧ a ≤ (vrl l a most).2.2 ∧ (vrl l a most).2.2 ≤ l.length := by
  have hf := vrd_facts l a h
  unfold vrl
  split
  · exact ⟨allLt_nil, by simp, by simp, by simp, h⟩
  · split
    · split
      · exact ⟨allLt_nil, by simp, by simp, hf.2.2.1, hf.2.2.2⟩
      · have := vls_facts l (vrd l a).1 (vrd l a).2.2 [] allLt_nil (by simp) hf.2.2.2
        exact ⟨this.1, this.2.1, by omega, by omega, this.2.2.2.2⟩
    · exact ⟨allLt_nil, by simp, Nat.le_trans hf.2.1 (by omega), hf.2.2.1, hf.2.2.2⟩
section
variable {S : Nat → Prop} {W w : World} {M : List Thing} {b : Nat} {s : ByteArray} {a : Nat}
set_option maxRecDepth 20000 in
set_option maxHeartbeats 2000000 in
theorem dread_st (h : St S W w (rdT b s a :: M)) (hs : s.size ≤ 1000000) (ha : a ≤ s.size) (most : Int) (hm : -9223372036854775808 ≤ most ∧ most < 9223372036854775808) :
    Calls Try.prog 20 #[.pointer (some ⟨b, 0, none⟩), .int .i64 most] w fun e w' => ∃ v, e = .returned (.tuple #[v, .int .i64 (drl s.data.toList a most).2.1]) ∧ St S W w' (nlT v (drl s.data.toList a most).1 :: rdT b s (drl s.data.toList a most).2.2 :: M) := by
  have hf := vrl_facts s.data.toList a most (by simpa using ha)
  have HV := Lib.hid (vreadlist_st h hs ha most hm)
  unfold drl
  generalize vrl s.data.toList a most = T at HV hf ⊢
  obtain ⟨L, er, en⟩ := T
  obtain ⟨hL, hLl, her, hen, hel⟩ := hf
  simp only at HV hL hLl her hen hel ⊢
  rw [show s.data.toList.length = s.size by simp] at hLl hel
  clear h
  by_cases he : er = 0
  · subst he
    rw [if_pos rfl]
    go_enter Try.func20, Try.ntmps20
    go_wp2_with (first
      | (go_at_call 24; refine HV.out.mono ?_; rintro e w1 ⟨v, rfl, h1⟩; obtain ⟨A1, c1, rfl⟩ := h1.own.form; have HS := Lib.hid (sums_st h1 A1 c1 L (by omega) (Own.nrow h1.own rfl) hL))
      | (go_at_call 13; refine HS.out.mono ?_; rintro e w2 ⟨g, rfl, h2, x2⟩))
    go_ret2
    refine ⟨_, rfl, ?_⟩
    have h3 := h2.swap.drop
    unfold nlT at h3 ⊢
    rw [sums_len] at h3 ⊢
    exact h3
  · rw [if_neg he]
    have hne : ((er : Int) != 0) = true := by rw [bne_iff_ne]; omega
    clear he
    go_enter Try.func20, Try.ntmps20
    go_wp2_with (go_at_call 24; refine HV.out.mono ?_; rintro e w1 ⟨v, rfl, h1⟩)
    go_ret2
    exact ⟨_, rfl, h1.drop.nilOwn _ _⟩
end
end Go.Proofs.Ytkjnpjkfagdegaa
