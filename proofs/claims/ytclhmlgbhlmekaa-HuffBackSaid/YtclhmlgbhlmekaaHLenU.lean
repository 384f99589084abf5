/- Layer 7: the lengths may be used: plain. -/
import Derived.Test.YtclhmlgbhlmekaaHLenT
import Derived.Test.YtclhmlgbhlmekaaHCanon
namespace Go.Proofs.Ytclhmlgbhlmekaa
open Go.RowKit
set_option linter.unusedVariables false
set_option linter.unusedSimpArgs false
theorem leaves_len (f : Nat → Nat) (hf : ∀ i, f i < 18446744073709551616) (n : Nat) : (leafS f n).l.length = (leavesB f n).length := by
  have := (leaf_forest f hf n).2.2.1
  unfold forest at this
  rw [List.length_map] at this
  exact this
theorem lenS_zero (f : Nat → Nat) (hf : ∀ i, f i < 18446744073709551616) (n : Nat) (h : leavesB f n = []) : lenS (leafS f n) = fun _ => 0 := by
  have h1 := leaves_len f hf n
  rw [h, List.length_nil] at h1
  unfold lenS
  rw [if_neg (by omega)]
  have h2 : (heapS (leafS f n)).l.length = 0 := by show (hinit _ _).length = 0; rw [hinit_len]; exact h1
  rw [h2]; rfl
theorem lenS_one (f : Nat → Nat) (hf : ∀ i, f i < 18446744073709551616) (n : Nat) (c : UInt8) (h : leavesB f n = [c]) : lenS (leafS f n) = upd (fun _ => 0) c.toNat 1 := by
  have h1 := leaves_len f hf n
  obtain ⟨a1, a2, a3, a4⟩ := leaf_forest f hf n
  obtain ⟨g1, g2, g3, g4⟩ := leafS_ok f hf n
  rw [h, List.length_singleton] at h1
  unfold lenS
  rw [if_pos h1]
  obtain ⟨x, hx⟩ := List.length_eq_one_iff.1 h1
  have hx2 := (g3 x (by rw [hx]; simp)).1
  have e0 : x.2 = 0 := by omega
  have e : (forest (leafS f n)).flatMap (·.2.2) = (leafS f n).ls 0 := by
    unfold forest
    rw [hx, List.map_singleton, List.flatMap_singleton]
    show (leafS f n).ls x.2 = _
    rw [e0]
  rw [← e, a1, h]; rfl
/-- three kinds of weights -/
theorem lens_cases (f : Nat → Nat) (hf : ∀ i, f i < 18446744073709551616) : (leavesB f 256 = [] ∧ lenT f = fun _ => 0) ∨ (∃ c, leavesB f 256 = [c] ∧ lenT f = upd (fun _ => 0) c.toNat 1) ∨ (2 ≤ (leavesB f 256).length ∧ ∃ d, Deep f d) := by
  have hT : lenT f = lenS (leafS f 256) := rfl
  have h0 := fun h => hT.trans (lenS_zero f hf 256 h)
  have h1 := fun c h => hT.trans (lenS_one f hf 256 c h)
  have h2 := deep f hf
  clear hT
  generalize lenT f = t at *
  generalize leavesB f 256 = L at *
  rcases L with _ | ⟨c, _ | ⟨d, r⟩⟩
  · exact .inl ⟨rfl, h0 rfl⟩
  · exact .inr (.inl ⟨c, rfl, h1 c rfl⟩)
  · exact .inr (.inr ⟨by rw [List.length_cons, List.length_cons]; omega, h2 (by rw [List.length_cons, List.length_cons]; omega)⟩)
theorem Deep.at_leaf {f d : Nat → Nat} (h : Deep f d) {i : Nat} (hi : i < 256) (h0 : 0 < f i) : lenT f i = d i ∧ 1 ≤ d i ∧ d i ≤ 255 := by
  have hm : UInt8.ofNat i ∈ leavesB f 256 := (leavesB_mem f 256 (Nat.le_refl _) _).2 (by rw [ofNat_lt hi]; exact ⟨hi, h0⟩)
  have := h.on _ hm
  rw [ofNat_lt hi] at this
  rw [h.len]
  refine ⟨Nat.mod_eq_of_lt (by omega), this⟩
theorem Deep.no_leaf {f d : Nat → Nat} (h : Deep f d) {i : Nat} (h0 : ¬ (i < 256 ∧ 0 < f i)) : lenT f i = 0 := by
  rw [h.len]
  show d i % 256 = 0
  rw [h.off i (fun c hc e => h0 (by rw [← e]; exact (leavesB_mem f 256 (Nat.le_refl _) _).1 hc))]
theorem lenT_zero_iff (f : Nat → Nat) (hf : ∀ i, f i < 18446744073709551616) {i : Nat} (hi : i < 256) : lenT f i = 0 ↔ f i = 0 := by
  rcases lens_cases f hf with ⟨h1, h2⟩ | ⟨c, h1, h2⟩ | ⟨_, d, hd⟩
  · refine ⟨fun _ => ?_, fun _ => by rw [h2]⟩
    rcases Nat.eq_zero_or_pos (f i) with h | h
    · exact h
    · have := (leavesB_mem f 256 (Nat.le_refl _) (UInt8.ofNat i)).2 (by rw [ofNat_lt hi]; exact ⟨hi, h⟩)
      rw [h1] at this; exact (List.not_mem_nil this).elim
  · have hc := (leavesB_mem f 256 (Nat.le_refl _) c).1 (by rw [h1]; simp)
    rw [h2]
    unfold upd
    by_cases e : i = c.toNat
    · rw [if_pos e, e]
      refine ⟨fun h => by omega, fun h => by omega⟩
    · rw [if_neg e]
      refine ⟨fun _ => ?_, fun _ => rfl⟩
      rcases Nat.eq_zero_or_pos (f i) with h | h
      · exact h
      · have := (leavesB_mem f 256 (Nat.le_refl _) (UInt8.ofNat i)).2 (by rw [ofNat_lt hi]; exact ⟨hi, h⟩)
        rw [h1, List.mem_singleton] at this
        rw [← this, ofNat_lt hi] at e
        exact absurd rfl e
  · rcases Nat.eq_zero_or_pos (f i) with h | h
    · exact ⟨fun _ => h, fun _ => hd.no_leaf (fun e => by omega)⟩
    · have := hd.at_leaf hi h
      exact ⟨fun e => by omega, fun e => by omega⟩
theorem fib_double (n : Nat) : 2 * fib n ≤ fib (n + 2) := by
  have := fib_mono n
  rw [fib]; omega
theorem fib_pow : ∀ k, 2 ^ k ≤ fib (2 * k + 1)
  | 0 => Nat.le_refl _
  | k + 1 => by
    have h1 := fib_pow k
    have h2 := fib_double (2 * k + 1)
    rw [show 2 * (k + 1) + 1 = 2 * k + 1 + 2 by omega, Nat.pow_succ]; omega
theorem fib_le {a b : Nat} (h : a ≤ b) : fib a ≤ fib b := by
  induction b with
  | zero => rw [Nat.le_zero.1 h]; exact Nat.le_refl _
  | succ b ih =>
    rcases Nat.lt_or_ge b a with h1 | h1
    · rw [show a = b + 1 by omega]; exact Nat.le_refl _
    · exact Nat.le_trans (ih h1) (fib_mono b)
theorem lenT_few (f : Nat → Nat) (hf : ∀ i, f i < 18446744073709551616) (hN : sumF f 256 < 134217728) : ∀ i, lenT f i ≤ 56 := fun i => by
  rcases lens_cases f hf with ⟨h1, h2⟩ | ⟨c, h1, h2⟩ | ⟨_, d, hd⟩
  · rw [h2]; exact Nat.zero_le _
  · rw [h2]; unfold upd; split
    · omega
    · exact Nat.zero_le _
  · by_cases hi : i < 256 ∧ 0 < f i
    · obtain ⟨h1, h2, h3⟩ := hd.at_leaf hi.1 hi.2
      obtain ⟨k, h4, h5⟩ := hd.few (by omega)
      have hm : UInt8.ofNat i ∈ leavesB f 256 := (leavesB_mem f 256 (Nat.le_refl _) _).2 (by rw [ofNat_lt hi.1]; exact hi)
      have h6 := h4 _ hm
      rw [ofNat_lt hi.1] at h6
      rcases Nat.lt_or_ge k 54 with h7 | h7
      · omega
      · have h8 := fib_le (show 2 * 27 + 1 ≤ k + 2 by omega)
        have h9 := fib_pow 27
        have e : (2 : Nat) ^ 27 = 134217728 := rfl
        omega
    · rw [hd.no_leaf hi]; exact Nat.zero_le _
theorem sumT_leaves (t d f : Nat → Nat) : ∀ n, n ≤ 256 → (∀ i, i < n → (0 < f i → t i = d i ∧ 1 ≤ d i) ∧ (¬ 0 < f i → t i = 0)) → sumT t n = ((leavesB f n).map fun c => 2 ^ (56 - d c.toNat)).sum
  | 0, _, _ => rfl
  | i + 1, hn, h => by
    have ih := sumT_leaves t d f i (by omega) (fun j hj => h j (by omega))
    obtain ⟨h1, h2⟩ := h i (by omega)
    rw [sumT, leavesB, ih]
    by_cases h0 : 0 < f i
    · obtain ⟨e1, e2⟩ := h1 h0
      rw [if_pos h0, if_pos (by omega), List.map_append, List.sum_append, List.map_singleton, List.sum_singleton, ofNat_lt (by omega), e1]
    · rw [if_neg h0, if_neg (by rw [h2 h0]; omega)]; rfl
theorem krf_scale (d : Nat → Nat) : ∀ (L : List UInt8), (∀ c ∈ L, d c.toNat ≤ 56) → krf d L = 2 ^ 199 * (L.map fun c => 2 ^ (56 - d c.toNat)).sum
  | [], _ => by simp [krf]
  | c :: r, h => by
    have ih := krf_scale d r (fun x hx => h x (List.mem_cons_of_mem _ hx))
    have hc := h c (List.mem_cons_self ..)
    unfold krf at *
    rw [List.map_cons, List.sum_cons, ih, List.map_cons, List.sum_cons, Nat.mul_add, ← Nat.pow_add, show 199 + (56 - d c.toNat) = 255 - d c.toNat by omega]
theorem sumT_upd (c : Nat) : ∀ n, sumT (upd (fun _ => 0) c 1) n = if c < n then 36028797018963968 else 0
  | 0 => by rw [if_neg (by omega)]; rfl
  | i + 1 => by
    rw [sumT, sumT_upd c i]
    by_cases e : i = c
    · subst e; rw [upd_self, if_neg (by omega), if_pos (by omega), if_pos (by omega)]
    · rw [upd_ne _ _ e, if_neg (show ¬ 0 < 0 by omega)]
      by_cases h : c < i
      · rw [if_pos h, if_pos (by omega)]
      · rw [if_neg h, if_neg (by omega)]
theorem cntT_upd (c : Nat) : ∀ n, cntT (upd (fun _ => 0) c 1) n = if c < n then 1 else 0
  | 0 => by rw [if_neg (by omega)]; rfl
  | i + 1 => by
    rw [cntT, cntT_upd c i]
    by_cases e : i = c
    · subst e; rw [upd_self, if_neg (by omega), if_pos (by omega), if_pos (by omega)]
    · rw [upd_ne _ _ e, if_neg (show ¬ 0 < 0 by omega)]
      by_cases h : c < i
      · rw [if_pos h, if_pos (by omega)]
      · rw [if_neg h, if_neg (by omega)]
theorem cntT_zero : ∀ n, cntT (fun _ => 0) n = 0
  | 0 => rfl
  | i + 1 => by rw [cntT, cntT_zero i, if_neg (by omega)]
theorem codE_lenT (f : Nat → Nat) (hf : ∀ i, f i < 18446744073709551616) (h56 : ∀ i, i < 256 → lenT f i ≤ 56) : codE (lenT f) = 0 := by
  have hg : greatT (lenT f) = false := by
    unfold greatT
    rw [List.any_eq_false]
    intro i hi
    have := h56 i (List.mem_range.1 hi)
    simpa using this
  unfold codE
  rw [hg, if_neg (by decide)]
  rcases lens_cases f hf with ⟨h1, h2⟩ | ⟨c, h1, h2⟩ | ⟨_, d, hd⟩
  · rw [h2, cntT_zero, if_neg (by omega)]
  · have := c.toNat_lt
    have e1 : cntT (upd (fun _ => 0) c.toNat 1) 256 = 1 := by rw [cntT_upd, if_pos (by omega)]
    have e2 : sumT (upd (fun _ => 0) c.toNat 1) 256 = 36028797018963968 := by rw [sumT_upd, if_pos (by omega)]
    rw [h2, e1, e2, if_neg (fun h => h.2.2 ⟨rfl, rfl⟩)]
  · have hs := sumT_leaves (lenT f) d f 256 (Nat.le_refl _) (fun i hi => ⟨fun h0 => ⟨(hd.at_leaf hi h0).1, (hd.at_leaf hi h0).2.1⟩, fun h0 => hd.no_leaf (fun e => h0 e.2)⟩)
    have hk := krf_scale d (leavesB f 256) (fun c hc => by
      obtain ⟨h1, h2⟩ := (leavesB_mem f 256 (Nat.le_refl _) c).1 hc
      have h3 := h56 c.toNat h1
      rw [(hd.at_leaf h1 h2).1] at h3
      exact h3)
    rw [hd.room] at hk
    rw [← hs] at hk
    have e : sumT (lenT f) 256 = 72057594037927936 := by
      have e1 : (2 : Nat) ^ 255 = 2 ^ 199 * 72057594037927936 := by rw [show (72057594037927936 : Nat) = 2 ^ 56 from rfl, ← Nat.pow_add]
      rw [e1] at hk
      exact (Nat.eq_of_mul_eq_mul_left (Nat.two_pow_pos _) hk).symm
    rw [if_neg (fun h => h.2.1 e)]
theorem sumF_cnt : ∀ (l : List UInt8) , ∀ n, n ≤ 256 → sumF (cntF l) n = l.countP (fun x => decide (x.toNat < n))
  | l, 0, _ => by
    rw [sumF]; symm; rw [List.countP_eq_zero]; simp
  | l, n + 1, h => by
    rw [sumF, sumF_cnt l n (by omega)]
    unfold cntF
    induction l with
    | nil => rfl
    | cons x r ih =>
      rw [List.countP_cons, List.countP_cons, List.countP_cons, ← ih]
      by_cases h1 : x.toNat < n
      · have h2 : x.toNat < n + 1 := by omega
        have h3 : ¬ x.toNat = n := by omega
        simp [h1, h2, h3]; omega
      · by_cases h3 : x.toNat = n
        · simp [h3]; omega
        · have h2 : ¬ x.toNat < n + 1 := by omega
          simp [h1, h2, h3]
theorem sumF_cnt_all (l : List UInt8) : sumF (cntF l) 256 = l.length := by
  rw [sumF_cnt l 256 (Nat.le_refl _), List.countP_eq_length]
  intro x _
  have := x.toNat_lt
  simpa using this
theorem cntF_small {l : List UInt8} (h : l.length < 18446744073709551616) : ∀ i, cntF l i < 18446744073709551616 := fun i => Nat.lt_of_le_of_lt (cntF_le l i) h
theorem lenT_text {l : List UInt8} (h : l.length < 134217728) : ∀ i, lenT (cntF l) i ≤ 56 :=
  lenT_few _ (cntF_small (by omega)) (by rw [sumF_cnt_all]; exact h)
theorem codE_text {l : List UInt8} (h : l.length < 134217728) : codE (lenT (cntF l)) = 0 :=
  codE_lenT _ (cntF_small (by omega)) (fun i _ => lenT_text h i)
end Go.Proofs.Ytclhmlgbhlmekaa
