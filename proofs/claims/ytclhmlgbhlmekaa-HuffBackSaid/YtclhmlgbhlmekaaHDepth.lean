/- Layer 7: the trees' depths: they fill the room (Kraft), and are few (Fibonacci): plain. -/
import Derived.Test.YtclhmlgbhlmekaaHForest
namespace Go.Proofs.Ytclhmlgbhlmekaa
open Go.RowKit
set_option linter.unusedVariables false
set_option linter.unusedSimpArgs false
theorem cntF_none {bs : List UInt8} {i : Nat} (h : ∀ c ∈ bs, c.toNat ≠ i) : cntF bs i = 0 := by
  unfold cntF
  rw [List.countP_eq_zero]
  intro c hc
  simpa using h c hc
theorem cntF_one : ∀ {bs : List UInt8} {c : UInt8}, bs.Nodup → c ∈ bs → cntF bs c.toNat = 1
  | x :: r, c, hn, hc => by
    obtain ⟨h1, h2⟩ := List.nodup_cons.1 hn
    have e : cntF (x :: r) c.toNat = cntF r c.toNat + (if x.toNat = c.toNat then 1 else 0) := by
      unfold cntF; rw [List.countP_cons]; simp
    rw [e]
    rcases List.mem_cons.1 hc with rfl | hc
    · rw [if_pos rfl, cntF_none (fun d hd e => h1 (by rw [← UInt8.toNat_inj.1 e]; exact hd))]
    · rw [if_neg (fun e => h1 (by rw [UInt8.toNat_inj.1 e]; exact hc)), cntF_one h2 hc]
def krf (d : Nat → Nat) (bs : List UInt8) : Nat := (bs.map fun c => 2 ^ (255 - d c.toNat)).sum
theorem krf_append (d : Nat → Nat) (a b : List UInt8) : krf d (a ++ b) = krf d a + krf d b := by unfold krf; rw [List.map_append, List.sum_append]
theorem krf_congr {d e : Nat → Nat} {bs : List UInt8} (h : ∀ c ∈ bs, d c.toNat = e c.toNat) : krf d bs = krf e bs := by
  unfold krf; rw [List.map_congr_left (fun c hc => by rw [h c hc])]
theorem krf_half (d : Nat → Nat) : ∀ (bs : List UInt8), (∀ c ∈ bs, d c.toNat + 1 ≤ 255) → 2 * krf (fun i => d i + 1) bs = krf d bs
  | [], _ => rfl
  | c :: r, h => by
    have h1 := krf_half d r (fun x hx => h x (List.mem_cons_of_mem _ hx))
    have h2 := h c (List.mem_cons_self ..)
    unfold krf at *
    rw [List.map_cons, List.sum_cons, List.map_cons, List.sum_cons, Nat.mul_add, h1]
    congr 1
    rw [show 255 - d c.toNat = (255 - (d c.toNat + 1)) + 1 by omega, Nat.pow_succ, Nat.mul_comm]
/-- what the rounds keep: the bytes, the room, the depths -/
structure QK (L0 : List UInt8) (F : List Tr) (d : Nat → Nat) : Prop where
  bytes : (F.flatMap (·.2.2)).Perm L0
  off : ∀ i, (∀ c ∈ L0, c.toNat ≠ i) → d i = 0
  room : ∀ T ∈ F, krf d T.2.2 = 2 ^ 255
  deep : ∀ T ∈ F, ∀ c ∈ T.2.2, d c.toNat + 1 ≤ T.2.2.length
theorem QK.perm {L0 : List UInt8} {F G : List Tr} {d : Nat → Nat} (hp : F.Perm G) (h : QK L0 F d) : QK L0 G d :=
  ⟨(hp.symm.flatMap_right _).trans h.bytes, h.off, fun T hT => h.room T (hp.mem_iff.2 hT), fun T hT => h.deep T (hp.mem_iff.2 hT)⟩
theorem QK.step {L0 : List UInt8} (h0 : L0.Nodup) (h256 : L0.length ≤ 256) {x0 x1 : Tr} {rest : List Tr} {d : Nat → Nat} (w n : Nat) (h : QK L0 (x0 :: x1 :: rest) d) :
    QK L0 ((w, n, x0.2.2 ++ x1.2.2) :: rest) (fun i => d i + cntF (x0.2.2 ++ x1.2.2) i) := by
  have hb := h.bytes
  rw [List.flatMap_cons, List.flatMap_cons, ← List.append_assoc] at hb
  have hnd := hb.nodup_iff.2 h0
  obtain ⟨n1, n2, n3⟩ := List.nodup_append.1 hnd
  have hr0 := h.room x0 (by simp)
  have hr1 := h.room x1 (by simp)
  have hd0 := h.deep x0 (by simp)
  have hd1 := h.deep x1 (by simp)
  have hl := hb.length_eq
  rw [List.length_append, List.length_append] at hl
  have ne : ∀ {bs : List UInt8}, krf d bs = 2 ^ 255 → 1 ≤ bs.length := fun {bs} e => by
    cases bs with
    | nil => have : krf d [] = 0 := rfl
             rw [this] at e; exact absurd e.symm (Nat.ne_of_gt (Nat.two_pow_pos _))
    | cons => rw [List.length_cons]; omega
  have z0 := ne hr0
  have z1 := ne hr1
  have hone : ∀ c ∈ x0.2.2 ++ x1.2.2, cntF (x0.2.2 ++ x1.2.2) c.toNat = 1 := fun c hc => cntF_one n1 hc
  have hoff : ∀ T ∈ rest, ∀ c ∈ T.2.2, cntF (x0.2.2 ++ x1.2.2) c.toNat = 0 := fun T hT c hc => cntF_none (fun c2 hc2 e => by
    have := n3 c2 hc2 c (List.mem_flatMap.2 ⟨T, hT, hc⟩)
    exact this (UInt8.toNat_inj.1 e))
  refine ⟨?_, fun i hi => ?_, fun T hT => ?_, fun T hT c hc => ?_⟩
  · rw [List.flatMap_cons]; exact hb
  · show d i + _ = 0
    rw [h.off i hi, cntF_none (fun c hc => hi c (hb.mem_iff.1 (List.mem_append_left _ hc)))]
  · rcases List.mem_cons.1 hT with rfl | hT
    · show krf _ (x0.2.2 ++ x1.2.2) = _
      rw [krf_congr (e := fun i => d i + 1) (fun c hc => by rw [hone c hc])]
      have h2 := krf_half d (x0.2.2 ++ x1.2.2) (fun c hc => by
        rcases List.mem_append.1 hc with h | h
        · have := hd0 c h; omega
        · have := hd1 c h; omega)
      rw [krf_append d, hr0, hr1] at h2
      omega
    · rw [krf_congr (e := d) (fun c hc => by rw [hoff T hT c hc]; rfl)]
      exact h.room T (by simp [hT])
  · rcases List.mem_cons.1 hT with rfl | hT
    · show d c.toNat + cntF _ c.toNat + 1 ≤ (x0.2.2 ++ x1.2.2).length
      rw [hone c hc, List.length_append]
      rcases List.mem_append.1 hc with h | h
      · have := hd0 c h; omega
      · have := hd1 c h; omega
    · show d c.toNat + cntF _ c.toNat + 1 ≤ _
      rw [hoff T hT c hc]
      exact h.deep T (by simp [hT]) c hc
def fib : Nat → Nat
  | 0 => 0
  | 1 => 1
  | n + 2 => fib n + fib (n + 1)
theorem fib_mono (n : Nat) : fib n ≤ fib (n + 1) := by
  cases n with
  | zero => decide
  | succ n => rw [show n + 1 + 1 = n + 2 from rfl, fib]; omega
/-- the weights: none is lost; a deep tree is a heavy one -/
structure QF (N : Nat) (F : List Tr) (d : Nat → Nat) : Prop where
  total : (F.map (·.1)).sum = N
  deep : ∀ T ∈ F, ∃ h, (∀ c ∈ T.2.2, d c.toNat ≤ h) ∧ fib (h + 2) ≤ T.1 ∧ ∀ U ∈ F, fib (h + 1) ≤ U.1
theorem QF.perm {N : Nat} {F G : List Tr} {d : Nat → Nat} (hp : F.Perm G) (h : QF N F d) : QF N G d :=
  ⟨((hp.symm.map _).sum_nat).trans h.total, fun T hT => by
    obtain ⟨k, h1, h2, h3⟩ := h.deep T (hp.mem_iff.2 hT)
    exact ⟨k, h1, h2, fun U hU => h3 U (hp.mem_iff.2 hU)⟩⟩
theorem tle_weight {a b : Tr} (h : tle a b) : a.1 ≤ b.1 := by
  unfold tle wle at h
  rw [wlt_no] at h
  simp only at h
  omega
theorem QF.step {L0 : List UInt8} (h0 : L0.Nodup) {N : Nat} (hN : N < 18446744073709551616) {x0 x1 : Tr} {rest : List Tr} {d : Nat → Nat} (n : Nat)
    (l0 : ∀ y ∈ x1 :: rest, tle x0 y) (l1 : ∀ y ∈ rest, tle x1 y) (hk : QK L0 (x0 :: x1 :: rest) d) (h : QF N (x0 :: x1 :: rest) d) :
    QF N ((sumW x0.1 x1.1, n, x0.2.2 ++ x1.2.2) :: rest) (fun i => d i + cntF (x0.2.2 ++ x1.2.2) i) := by
  have ht := h.total
  rw [List.map_cons, List.map_cons, List.sum_cons, List.sum_cons] at ht
  have hsw : sumW x0.1 x1.1 = x0.1 + x1.1 := by unfold sumW; rw [if_pos (by omega)]
  have hb := hk.bytes
  rw [List.flatMap_cons, List.flatMap_cons, ← List.append_assoc] at hb
  have hnd := hb.nodup_iff.2 h0
  obtain ⟨n1, n2, n3⟩ := List.nodup_append.1 hnd
  have hone : ∀ c ∈ x0.2.2 ++ x1.2.2, cntF (x0.2.2 ++ x1.2.2) c.toNat = 1 := fun c hc => cntF_one n1 hc
  have hoff : ∀ T ∈ rest, ∀ c ∈ T.2.2, cntF (x0.2.2 ++ x1.2.2) c.toNat = 0 := fun T hT c hc => cntF_none (fun c2 hc2 e => by
    have := n3 c2 hc2 c (List.mem_flatMap.2 ⟨T, hT, hc⟩)
    exact this (UInt8.toNat_inj.1 e))
  have w0 := fun y hy => tle_weight (l0 y hy)
  have w1 := fun y hy => tle_weight (l1 y hy)
  have w01 := w0 x1 (by simp)
  obtain ⟨k0, a1, a2, a3⟩ := h.deep x0 (by simp)
  obtain ⟨k1, b1, b2, b3⟩ := h.deep x1 (by simp)
  refine ⟨by rw [List.map_cons, List.sum_cons, hsw]; dsimp only; omega, fun T hT => ?_⟩
  rcases List.mem_cons.1 hT with rfl | hT
  · rcases Nat.le_total k1 k0 with hle | hle
    · refine ⟨k0 + 1, fun c hc => ?_, ?_, fun U hU => ?_⟩
      · show d c.toNat + cntF _ _ ≤ _
        rw [hone c hc]
        rcases List.mem_append.1 hc with h | h
        · have := a1 c h; omega
        · have := b1 c h; omega
      · show fib (k0 + 1 + 2) ≤ sumW x0.1 x1.1
        rw [hsw, show k0 + 1 + 2 = (k0 + 1) + 2 from rfl, fib]
        have := a3 x1 (by simp)
        have e : fib (k0 + 1 + 1) = fib (k0 + 2) := rfl
        omega
      · rcases List.mem_cons.1 hU with rfl | hU
        · show fib (k0 + 1 + 1) ≤ sumW x0.1 x1.1
          rw [hsw, show k0 + 1 + 1 = k0 + 2 from rfl]; omega
        · have := w0 U (by simp [hU])
          rw [show k0 + 1 + 1 = k0 + 2 from rfl]; omega
    · refine ⟨k1 + 1, fun c hc => ?_, ?_, fun U hU => ?_⟩
      · show d c.toNat + cntF _ _ ≤ _
        rw [hone c hc]
        rcases List.mem_append.1 hc with h | h
        · have := a1 c h; omega
        · have := b1 c h; omega
      · show fib (k1 + 1 + 2) ≤ sumW x0.1 x1.1
        rw [hsw, show k1 + 1 + 2 = (k1 + 1) + 2 from rfl, fib]
        have := b3 x0 (by simp)
        have e : fib (k1 + 1 + 1) = fib (k1 + 2) := rfl
        omega
      · rcases List.mem_cons.1 hU with rfl | hU
        · show fib (k1 + 1 + 1) ≤ sumW x0.1 x1.1
          rw [hsw, show k1 + 1 + 1 = k1 + 2 from rfl]; omega
        · have := w1 U hU
          rw [show k1 + 1 + 1 = k1 + 2 from rfl]; omega
  · obtain ⟨k, c1, c2, c3⟩ := h.deep T (by simp [hT])
    refine ⟨k, fun c hc => by show d c.toNat + _ ≤ k; rw [hoff T hT c hc]; exact c1 c hc, c2, fun U hU => ?_⟩
    rcases List.mem_cons.1 hU with rfl | hU
    · show _ ≤ sumW x0.1 x1.1
      rw [hsw]
      have := c3 x0 (by simp)
      omega
    · exact c3 U (by simp [hU])
end Go.Proofs.Ytclhmlgbhlmekaa
