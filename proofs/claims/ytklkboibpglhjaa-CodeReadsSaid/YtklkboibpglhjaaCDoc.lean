/- Layer 9: the document's Read, plain, and that it is the program's. -/
import Derived.Test.YtklkboibpglhjaaGe
namespace Go.Proofs.Ytklkboibpglhjaa
open Go.RowKit
set_option linter.unusedVariables false
set_option linter.unusedSimpArgs false
def dB (l : List UInt8) (i : Nat) : Int := ((l.getD i 0).toNat : Nat)
def dI (l : List UInt8) (a k : Nat) : Ins := ⟨dB l a, dB l (a + 1), dB l (a + 2), dB l (a + 3), dB l (a + 4), k⟩
def dIs (l : List UInt8) : Nat → Nat → List Ins → Option (List Ins × Nat)
  | 0, a, acc => some (acc, a)
  | n + 1, a, acc => if l.length < a + 5 then none else if (vrd l (a + 5)).2.1 = 0 then dIs l n (vrd l (a + 5)).2.2 (acc ++ [dI l a (vrd l (a + 5)).1]) else none
def dTs (l : List UInt8) : Nat → Nat → List (List Ins) → Option (List (List Ins) × Nat)
  | 0, a, acc => some (acc, a)
  | n + 1, a, acc => if (vrd l a).2.1 = 0 then (if 256 < (vrd l a).1 then none else (dIs l (vrd l a).1 (vrd l a).2.2 []).bind fun q => dTs l n q.2 (acc ++ [q.1])) else none
def dR (l : List UInt8) (i : Nat) : Rng := ⟨dB l (1 + 3 * i), dB l (2 + 3 * i), dB l (3 + 3 * i)⟩
def dFin (l : List UInt8) (rs : List Rng) (q : Option (List (List Ins) × Nat)) : Option Prg :=
  q.bind fun q => if q.2 = l.length ∧ writtenB ⟨rs, q.1⟩ = true then some ⟨rs, q.1⟩ else none
def dAll (l : List UInt8) : Option Prg :=
  if l.length < 1 then none else if l.length < 2 + 3 * (l.getD 0 0).toNat then none
  else dFin l ((List.range (l.getD 0 0).toNat).map (dR l)) (dTs l (l.getD (1 + 3 * (l.getD 0 0).toNat) 0).toNat (2 + 3 * (l.getD 0 0).toNat) [])
theorem rdB_in (l : List UInt8) (a : Nat) (h : a < l.length) : rdB l ⟨a, false⟩ = ((l.getD a 0).toNat, ⟨a + 1, false⟩) := by
  unfold rdB
  simp only [Bool.false_or]
  rw [Nat.min_eq_left (by omega), decide_eq_false (by omega)]
theorem rdB_or (l : List UInt8) (t : RS) (m : Nat) (h : t.bad = true ∨ t.at_ = m) : (rdB l t).2.bad = true ∨ ((rdB l t).2.at_ = m + 1 ∧ m < l.length) := by
  unfold rdB
  rcases h with h | h
  · left; simp only [h, Bool.true_or]
  · by_cases h2 : l.length ≤ t.at_
    · left; simp only [decide_eq_true h2, Bool.or_true]
    · right; simp only; rw [Nat.min_eq_left (by omega)]; omega
theorem rdB_or' (l : List UInt8) (t : RS) (m : Nat) (h : t.bad = true ∨ t.at_ = m) : (rdB l t).2.bad = true ∨ (rdB l t).2.at_ = m + 1 := (rdB_or l t m h).imp id (fun h => h.1)
theorem rdI_in (l : List UInt8) (a : Nat) (h : a + 5 ≤ l.length) : rdI l ⟨a, false⟩ = (dI l a (vrd l (a + 5)).1, ⟨(vrd l (a + 5)).2.2, decide (¬ (vrd l (a + 5)).2.1 = 0)⟩) := by
  unfold rdI
  rw [rdB_in l a (by omega)]
  simp only
  rw [rdB_in l (a + 1) (by omega)]
  simp only
  rw [rdB_in l (a + 1 + 1) (by omega)]
  simp only
  rw [rdB_in l (a + 1 + 1 + 1) (by omega)]
  simp only
  rw [rdB_in l (a + 1 + 1 + 1 + 1) (by omega)]
  simp only [rdN, Bool.false_or]
  rfl
theorem rdI_out (l : List UInt8) (a : Nat) (h : l.length < a + 5) : (rdI l ⟨a, false⟩).2.bad = true := by
  have h1 := rdB_or' l ⟨a, false⟩ a (.inr rfl)
  have h2 := rdB_or' l _ _ h1
  have h3 := rdB_or' l _ _ h2
  have h4 := rdB_or' l _ _ h3
  have h5 := rdB_or l _ _ h4
  rcases h5 with h5 | h5
  · show ((rdB l (rdB l (rdB l (rdB l (rdB l ⟨a, false⟩).2).2).2).2).2.bad || _) = true
    rw [h5, Bool.true_or]
  · omega
theorem rdIs_dIs (l : List UInt8) : ∀ (n a : Nat) (acc : List Ins), a ≤ l.length →
    (∀ q, dIs l n a acc = some q → rdIs l n ⟨a, false⟩ acc = (q.1, ⟨q.2, false⟩)) ∧ (dIs l n a acc = none → (rdIs l n ⟨a, false⟩ acc).2.bad = true)
  | 0, a, acc, h => by
    refine ⟨fun q hq => ?_, fun hq => by cases hq⟩
    cases Option.some.inj hq
    rfl
  | n + 1, a, acc, h => by
    rw [rdIs_go]
    unfold dIs
    by_cases h5 : l.length < a + 5
    · rw [if_pos h5]
      refine ⟨fun q hq => (by cases hq), fun _ => ?_⟩
      have hb := rdI_out l a h5
      generalize rdI l ⟨a, false⟩ = r at hb ⊢
      obtain ⟨x, ⟨a2, b2⟩⟩ := r
      simp only at hb
      subst hb
      rw [rdIs_bad]
    · rw [if_neg h5, rdI_in l a (by omega)]
      simp only
      by_cases he : (vrd l (a + 5)).2.1 = 0
      · rw [if_pos he, decide_eq_false (by simpa using he)]
        exact rdIs_dIs l n _ _ (vrd_facts l (a + 5) (by omega)).2.2.2
      · rw [if_neg he, decide_eq_true (by simpa using he)]
        refine ⟨fun q hq => (by cases hq), fun _ => ?_⟩
        rw [rdIs_bad]
theorem dIs_le (l : List UInt8) : ∀ (n a : Nat) (acc : List Ins) (q : List Ins × Nat), a ≤ l.length → dIs l n a acc = some q → q.2 ≤ l.length
  | 0, a, acc, q, h, hq => by cases Option.some.inj hq; exact h
  | n + 1, a, acc, q, h, hq => by
    unfold dIs at hq
    split at hq
    · cases hq
    · split at hq
      · exact dIs_le l n _ _ q (vrd_facts l (a + 5) (by omega)).2.2.2 hq
      · cases hq
theorem rdTs_dTs (l : List UInt8) : ∀ (n a : Nat) (acc : List (List Ins)), a ≤ l.length →
    (∀ q, dTs l n a acc = some q → rdTs l n ⟨a, false⟩ acc = (q.1, ⟨q.2, false⟩) ∧ q.2 ≤ l.length) ∧ (dTs l n a acc = none → (rdTs l n ⟨a, false⟩ acc).2.bad = true)
  | 0, a, acc, h => by
    refine ⟨fun q hq => ?_, fun hq => by cases hq⟩
    cases Option.some.inj hq
    exact ⟨rfl, h⟩
  | n + 1, a, acc, h => by
    rw [rdTs_go]
    have hT : rdT1 l ⟨a, false⟩ = rdIs l (vrd l a).1 ⟨(vrd l a).2.2, (false || decide (¬ (vrd l a).2.1 = 0)) || decide (256 < (vrd l a).1)⟩ [] := rfl
    have hle := (vrd_facts l a h).2.2.2
    unfold dTs
    by_cases he : (vrd l a).2.1 = 0
    · rw [if_pos he]
      rw [decide_eq_false (by simpa using he), Bool.false_or, Bool.false_or] at hT
      by_cases hm : 256 < (vrd l a).1
      · rw [if_pos hm]
        rw [decide_eq_true hm, rdIs_bad] at hT
        refine ⟨fun q hq => (by cases hq), fun _ => ?_⟩
        rw [hT, rdTs_bad]
      · rw [if_neg hm]
        rw [decide_eq_false hm] at hT
        obtain ⟨h1, h2⟩ := rdIs_dIs l (vrd l a).1 (vrd l a).2.2 [] hle
        cases hd : dIs l (vrd l a).1 (vrd l a).2.2 [] with
        | none =>
          refine ⟨fun q hq => (by cases hq), fun _ => ?_⟩
          have hb := h2 hd
          rw [hT]
          generalize rdIs l (vrd l a).1 ⟨(vrd l a).2.2, false⟩ [] = r at hb ⊢
          obtain ⟨x, ⟨a2, b2⟩⟩ := r
          simp only at hb
          subst hb
          rw [rdTs_bad]
        | some q =>
          rw [hT, h1 q hd, Option.bind_some]
          exact rdTs_dTs l n q.2 _ (dIs_le l _ _ _ q hle hd)
    · rw [if_neg he]
      rw [decide_eq_true (by simpa using he), Bool.false_or, Bool.true_or, rdIs_bad] at hT
      refine ⟨fun q hq => (by cases hq), fun _ => ?_⟩
      rw [hT, rdTs_bad]
theorem rdR_in (l : List UInt8) (i : Nat) (h : 4 + 3 * i ≤ l.length) : rdR l ⟨1 + 3 * i, false⟩ = (dR l i, ⟨1 + 3 * (i + 1), false⟩) := by
  unfold rdR
  rw [rdB_in l _ (by omega)]
  simp only
  rw [rdB_in l _ (by omega)]
  simp only
  rw [rdB_in l _ (by omega)]
  simp only [dR, dB]
  rw [show 1 + 3 * i + 1 = 2 + 3 * i by omega, show 2 + 3 * i + 1 = 3 + 3 * i by omega, show 3 + 3 * i + 1 = 1 + 3 * (i + 1) by omega]
theorem rdRs_in (l : List UInt8) : ∀ (n i : Nat) (acc : List Rng), 1 + 3 * (i + n) ≤ l.length → rdRs l n ⟨1 + 3 * i, false⟩ acc = (acc ++ (List.range' i n).map (dR l), ⟨1 + 3 * (i + n), false⟩)
  | 0, i, acc, h => by simp [rdRs]
  | n + 1, i, acc, h => by
    rw [rdRs_go, rdR_in l i (by omega)]
    simp only
    rw [rdRs_in l n (i + 1) _ (by omega), List.range'_succ, List.map_cons, List.append_assoc, List.singleton_append, show i + 1 + n = i + (n + 1) by omega]
theorem rdRs_or (l : List UInt8) : ∀ (n : Nat) (t : RS) (m : Nat) (acc : List Rng), (t.bad = true ∨ t.at_ = m) → (rdRs l n t acc).2.bad = true ∨ (rdRs l n t acc).2.at_ = m + 3 * n
  | 0, t, m, acc, h => h
  | n + 1, ⟨a, true⟩, m, acc, h => by rw [rdRs_bad]; exact .inl rfl
  | n + 1, ⟨a, false⟩, m, acc, h => by
    rw [rdRs_go]
    have h3 := rdB_or' l _ _ (rdB_or' l _ _ (rdB_or' l ⟨a, false⟩ m h))
    have := rdRs_or l n (rdR l ⟨a, false⟩).2 (m + 3) (acc ++ [(rdR l ⟨a, false⟩).1]) h3
    rw [show m + 3 * (n + 1) = m + 3 + 3 * n by omega]
    exact this
theorem dAll_eq (l : List UInt8) : dAll l = rdAll l := by
  rw [rdAll_eq]
  unfold dAll
  by_cases h0 : l.length < 1
  · rw [if_pos h0]
    obtain rfl : l = [] := List.length_eq_zero_iff.1 (by omega)
    rfl
  · rw [if_neg h0, rdB_in l 0 (by omega)]
    simp only
    generalize (l.getD 0 0).toNat = n
    by_cases h1 : l.length < 2 + 3 * n
    · rw [if_pos h1]
      have hb : (rdB l (rdRs l n ⟨0 + 1, false⟩ []).2).2.bad = true := by
        rcases rdB_or l _ _ (rdRs_or l n ⟨0 + 1, false⟩ 1 [] (.inr rfl)) with h | h
        · exact h
        · omega
      generalize rdB l (rdRs l n ⟨0 + 1, false⟩ []).2 = r at hb ⊢
      obtain ⟨x, ⟨a2, b2⟩⟩ := r
      simp only at hb
      subst hb
      simp only
      rw [rdTs_bad]
      rfl
    · rw [if_neg h1, show (0 + 1 : Nat) = 1 + 3 * 0 from rfl, rdRs_in l n 0 [] (by omega)]
      simp only [List.nil_append, Nat.zero_add]
      rw [rdB_in l (1 + 3 * n) (by omega), ← List.range_eq_range']
      simp only
      rw [show 1 + 3 * n + 1 = 2 + 3 * n by omega]
      generalize (List.range n).map (dR l) = rs
      generalize (l.getD (1 + 3 * n) 0).toNat = m
      obtain ⟨g1, g2⟩ := rdTs_dTs l m (2 + 3 * n) [] (by omega)
      cases hd : dTs l m (2 + 3 * n) [] with
      | none =>
        have hb := g2 hd
        unfold dFin rdFin
        rw [hb]
        rfl
      | some q =>
        obtain ⟨g3, g4⟩ := g1 q hd
        rw [g3]
        unfold dFin rdFin
        simp only [Option.bind_some, Bool.false_or]
        by_cases e : q.2 = l.length
        · rw [decide_eq_false (by omega), Bool.false_or]
          cases hw : writtenB ⟨rs, q.1⟩ with
          | true => rw [if_pos ⟨e, rfl⟩]; rfl
          | false => rw [if_neg (fun h => by cases h.2)]; rfl
        · rw [if_neg (fun h => e h.1), decide_eq_true (by omega), Bool.true_or]
          rfl
end Go.Proofs.Ytklkboibpglhjaa
