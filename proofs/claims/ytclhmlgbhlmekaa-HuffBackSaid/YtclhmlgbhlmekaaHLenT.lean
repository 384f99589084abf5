/- Layer 7: what the lengths are: plain. -/
import Derived.Test.YtclhmlgbhlmekaaHDepth
import Derived.Test.YtclhmlgbhlmekaaHCodes
namespace Go.Proofs.Ytclhmlgbhlmekaa
open Go.RowKit
set_option linter.unusedVariables false
set_option linter.unusedSimpArgs false
/-- the bytes that are there, in their order -/
def leavesB (f : Nat → Nat) : Nat → List UInt8
  | 0 => []
  | i + 1 => if 0 < f i then leavesB f i ++ [UInt8.ofNat i] else leavesB f i
def sumF (f : Nat → Nat) : Nat → Nat
  | 0 => 0
  | i + 1 => sumF f i + f i
theorem ofNat_lt {i : Nat} (h : i < 256) : (UInt8.ofNat i).toNat = i := by simp; omega
theorem leavesB_mem (f : Nat → Nat) : ∀ i, i ≤ 256 → ∀ c : UInt8, c ∈ leavesB f i ↔ c.toNat < i ∧ 0 < f c.toNat
  | 0, _, c => ⟨fun h => (List.not_mem_nil h).elim, fun h => by omega⟩
  | i + 1, hi, c => by
    have ih := leavesB_mem f i (by omega) c
    rw [leavesB]
    by_cases h0 : 0 < f i
    · rw [if_pos h0, List.mem_append, ih, List.mem_singleton]
      constructor
      · rintro (⟨h1, h2⟩ | rfl)
        · exact ⟨by omega, h2⟩
        · rw [ofNat_lt (by omega)]; exact ⟨by omega, h0⟩
      · rintro ⟨h1, h2⟩
        by_cases e : c.toNat = i
        · right; rw [← e]; simp
        · left; exact ⟨by omega, h2⟩
    · rw [if_neg h0, ih]
      constructor
      · rintro ⟨h1, h2⟩; exact ⟨by omega, h2⟩
      · rintro ⟨h1, h2⟩
        by_cases e : c.toNat = i
        · rw [e] at h2; exact absurd h2 h0
        · exact ⟨by omega, h2⟩
theorem leavesB_nodup (f : Nat → Nat) : ∀ i, i ≤ 256 → (leavesB f i).Nodup
  | 0, _ => List.nodup_nil
  | i + 1, hi => by
    have ih := leavesB_nodup f i (by omega)
    rw [leavesB]
    split
    · rw [List.nodup_append]
      refine ⟨ih, by simp, fun a ha b hb e => ?_⟩
      rw [List.mem_singleton] at hb
      subst hb e
      have := ((leavesB_mem f i (by omega) _).1 ha).1
      rw [ofNat_lt (by omega)] at this
      omega
    · exact ih
theorem leavesB_len (f : Nat → Nat) : ∀ i, (leavesB f i).length ≤ i
  | 0 => Nat.le_refl _
  | i + 1 => by
    have := leavesB_len f i
    rw [leavesB]
    split
    · rw [List.length_append, List.length_singleton]; omega
    · omega
theorem leaf_forest (f : Nat → Nat) (hf : ∀ i, f i < 18446744073709551616) : ∀ i,
    (forest (leafS f i)).flatMap (·.2.2) = leavesB f i ∧ ((forest (leafS f i)).map (·.1)).sum = sumF f i ∧ (forest (leafS f i)).length = (leavesB f i).length ∧ ∀ T ∈ forest (leafS f i), ∃ j, j < i ∧ T.2.2 = [UInt8.ofNat j] ∧ T.1 = f j ∧ 0 < f j
  | 0 => ⟨rfl, rfl, rfl, fun T hT => (List.not_mem_nil hT).elim⟩
  | i + 1 => by
    obtain ⟨h1, h2, h3, h4⟩ := leaf_forest f hf i
    obtain ⟨g1, g2, g3, g4⟩ := leafS_ok f hf i
    rw [leavesB, sumF, leafS]
    by_cases h0 : 0 < f i
    · rw [if_pos h0, if_pos h0]
      have e : forest ⟨(leafS f i).l ++ [(f i, (leafS f i).n)], (leafS f i).n + 1, updA (leafS f i).ls (leafS f i).n [UInt8.ofNat i], fun _ => 0⟩ = forest (leafS f i) ++ [(f i, (leafS f i).n, [UInt8.ofNat i])] := by
        unfold forest
        rw [List.map_append]
        congr 1
        · refine List.map_congr_left (fun x hx => ?_)
          show (x.1, x.2, updA (leafS f i).ls (leafS f i).n [UInt8.ofNat i] x.2) = _
          rw [updA_ne _ _ (by have := (g3 x hx).1; omega)]; rfl
        · show [(_, _, updA (leafS f i).ls (leafS f i).n [UInt8.ofNat i] (leafS f i).n)] = _
          rw [updA_self]
      rw [e]
      refine ⟨by rw [List.flatMap_append, h1]; rfl, by rw [List.map_append, List.sum_append, h2]; simp, by rw [List.length_append, List.length_append, h3]; rfl, fun T hT => ?_⟩
      rcases List.mem_append.1 hT with hT | hT
      · obtain ⟨j, a, b⟩ := h4 T hT; exact ⟨j, by omega, b⟩
      · rw [List.mem_singleton] at hT; subst hT; exact ⟨i, by omega, rfl, rfl, h0⟩
    · rw [if_neg h0, if_neg h0]
      refine ⟨h1, by rw [h2]; omega, h3, fun T hT => ?_⟩
      obtain ⟨j, a, b⟩ := h4 T hT; exact ⟨j, by omega, b⟩
/-- the trees' depths -/
structure Deep (f : Nat → Nat) (d : Nat → Nat) : Prop where
  len : lenT f = fun i => d i % 256
  off : ∀ i, (∀ c ∈ leavesB f 256, c.toNat ≠ i) → d i = 0
  room : krf d (leavesB f 256) = 2 ^ 255
  on : ∀ c ∈ leavesB f 256, 1 ≤ d c.toNat ∧ d c.toNat ≤ 255
  few : sumF f 256 < 18446744073709551616 → ∃ h, (∀ c ∈ leavesB f 256, d c.toNat ≤ h) ∧ fib (h + 2) ≤ sumF f 256
theorem krf_perm {d : Nat → Nat} {a b : List UInt8} (h : a.Perm b) : krf d a = krf d b := (h.map _).sum_nat
theorem krf_mem (d : Nat → Nat) : ∀ {a : List UInt8} {c : UInt8}, c ∈ a → 2 ^ (255 - d c.toNat) ≤ krf d a
  | x :: r, c, h => by
    unfold krf
    rw [List.map_cons, List.sum_cons]
    rcases List.mem_cons.1 h with rfl | h
    · exact Nat.le_add_right _ _
    · have := krf_mem d h
      unfold krf at this
      exact Nat.le_trans this (Nat.le_add_left _ _)
theorem krf_unit (c : UInt8) : krf (fun _ => 0) [c] = 2 ^ 255 := by
  unfold krf
  rw [List.map_singleton, List.sum_singleton, Nat.sub_zero]
theorem krf_two {d : Nat → Nat} {a : List UInt8} (hn : a.Nodup) (h2 : 2 ≤ a.length) (hk : krf d a = 2 ^ 255) {c : UInt8} (hc : c ∈ a) : 1 ≤ d c.toNat := by
  rcases Nat.lt_or_ge (d c.toNat) 1 with h | h
  · have e : d c.toNat = 0 := by omega
    have hp := List.perm_cons_erase hc
    have h3 := krf_perm (d := d) hp
    have h4 : (a.erase c).length = a.length - 1 := List.length_erase_of_mem hc
    rw [hk] at h3
    have h5 : krf d (c :: a.erase c) = 2 ^ (255 - d c.toNat) + krf d (a.erase c) := rfl
    rw [h5, e, Nat.sub_zero] at h3
    cases h6 : a.erase c with
    | nil => rw [h6] at h4; simp at h4; omega
    | cons x r =>
      have := krf_mem d (a := a.erase c) (c := x) (by rw [h6]; simp)
      have := Nat.two_pow_pos (255 - d x.toNat)
      omega
  · exact h
theorem deep_of (f : Nat → Nat) (hf : ∀ i, f i < 18446744073709551616) (n : Nat) (hn : n = 256) (h2 : 2 ≤ (leavesB f n).length) :
    ∃ d, lenS (leafS f n) = (fun i => d i % 256) ∧ (∀ i, (∀ c ∈ leavesB f n, c.toNat ≠ i) → d i = 0) ∧ krf d (leavesB f n) = 2 ^ 255 ∧ (∀ c ∈ leavesB f n, 1 ≤ d c.toNat ∧ d c.toNat ≤ 255) ∧
      (sumF f n < 18446744073709551616 → ∃ h, (∀ c ∈ leavesB f n, d c.toNat ≤ h) ∧ fib (h + 2) ≤ sumF f n) := by
  have hnd := leavesB_nodup f n (by omega)
  have hll := leavesB_len f n
  obtain ⟨a1, a2, a3, a4⟩ := leaf_forest f hf n
  obtain ⟨g1, g2, g3, g4⟩ := leafS_ok f hf n
  have hok := start_ok f hf n (by omega)
  have hhp := heap_start f n g1
  have hfl : (forest (leafS f n)).length = (leafS f n).l.length := by unfold forest; rw [List.length_map]
  have hpf : (forest (heapS (leafS f n))).Perm (forest (leafS f n)) := (hinit_perm _ _).map _
  generalize leafS f n = s0 at *
  have hl1 : s0.l.length ≠ 1 := by omega
  generalize leavesB f n = L0 at *
  have hz : ∀ i, (fun _ : Nat => 0) i = 0 := fun _ => rfl
  have q0 : QK L0 (forest (heapS s0)) (fun _ => 0) := QK.perm hpf.symm ⟨by rw [a1], fun i _ => rfl, fun T hT => by
      obtain ⟨j, _, e, _⟩ := a4 T hT
      rw [e]; exact krf_unit _, fun T hT c hc => by
      obtain ⟨j, _, e, _⟩ := a4 T hT
      rw [e]; simp⟩
  have q1 : QF (sumF f n) (forest (heapS s0)) (fun _ => 0) := QF.perm hpf.symm ⟨a2, fun T hT => ⟨0, fun c hc => Nat.le_refl _, by
      obtain ⟨j, _, _, e, h⟩ := a4 T hT
      rw [e]; show 1 ≤ f j; omega, fun U hU => by
      obtain ⟨j, _, _, e, h⟩ := a4 U hU
      rw [e]; show 1 ≤ f j; omega⟩⟩
  obtain ⟨m, ⟨r1, r2, r3⟩, r4⟩ := rounds_keep (fun F m d => QK L0 F d ∧ (sumF f n < 18446744073709551616 → QF (sumF f n) F d) ∧ F ≠ [])
    (fun F G m d hp h => ⟨h.1.perm hp, fun hN => (h.2.1 hN).perm hp, fun e => h.2.2 (by rw [e] at hp; exact hp.eq_nil)⟩)
    (fun x0 x1 rest m d l0 l1 h => ⟨QK.step hnd (by omega) _ _ h.1, fun hN => QF.step hnd hN m l0 l1 h.1 (h.2.1 hN), List.cons_ne_nil _ _⟩)
    (heapS s0).l.length (heapS s0) (fun _ => 0) (by omega) hok hhp ⟨q0, fun _ => q1, fun e => by
      have := hpf.length_eq
      rw [e] at this
      simp at this
      omega⟩
  obtain ⟨d, hd⟩ : ∃ d, depS (heapS s0).l.length (heapS s0) (fun _ => 0) = d := ⟨_, rfl⟩
  rw [hd] at r1 r2
  have hlen : lenS s0 = fun i => d i % 256 := by
    unfold lenS
    rw [if_neg hl1, rounds_dep _ _ (fun _ => 0) (by funext i; rfl), hd]
  generalize roundsS (heapS s0).l.length (heapS s0) = s9 at *
  have r5 : (forest s9).length ≤ 1 := by unfold forest; rw [List.length_map]; exact r4
  obtain ⟨T, hT⟩ : ∃ T, forest s9 = [T] := by
    rcases hF : forest s9 with _ | ⟨T, _ | ⟨U, r⟩⟩
    · exact absurd hF r3
    · exact ⟨T, rfl⟩
    · rw [hF, List.length_cons, List.length_cons] at r5; omega
  rw [hT] at r1 r2
  have hbt := r1.bytes
  rw [List.flatMap_singleton] at hbt
  have hroom := r1.room T (by simp)
  rw [krf_perm hbt] at hroom
  have htl := hbt.length_eq
  refine ⟨d, hlen, r1.off, hroom, fun c hc => ⟨krf_two hnd h2 hroom hc, ?_⟩, fun hN => ?_⟩
  · have := r1.deep T (by simp) c (hbt.mem_iff.2 hc)
    omega
  · obtain ⟨k, b1, b2, _⟩ := (r2 hN).deep T (by simp)
    have ht := (r2 hN).total
    rw [List.map_singleton, List.sum_singleton] at ht
    exact ⟨k, fun c hc => b1 c (hbt.mem_iff.2 hc), by omega⟩
theorem deep (f : Nat → Nat) (hf : ∀ i, f i < 18446744073709551616) (h2 : 2 ≤ (leavesB f 256).length) : ∃ d, Deep f d := by
  obtain ⟨d, h1, h3, h4, h5, h6⟩ := deep_of f hf 256 rfl h2
  exact ⟨d, h1, h3, h4, h5, h6⟩
end Go.Proofs.Ytclhmlgbhlmekaa
