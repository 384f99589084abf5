/- Layer 9: what is read is printed so. -/
import Derived.Test.YtklkboibpglhjaaCDocW
namespace Go.Proofs.Ytklkboibpglhjaa
open Go.RowKit
set_option linter.unusedVariables false
set_option linter.unusedSimpArgs false
theorem take_one (l : List UInt8) (i : Nat) (h : i < l.length) : l.take (i + 1) = l.take i ++ [l.getD i 0] := by
  rw [List.take_succ_eq_append_getElem h, List.getD_eq_getElem?_getD, List.getElem?_eq_getElem h]; rfl
theorem ofNat_toNat (b : UInt8) (n : Nat) (h : b.toNat = n) : UInt8.ofNat n = b := by rw [← h]; simp
theorem vgo_canon (l : List UInt8) (a : Nat) : ∀ (f k n : Nat), (vgo l a f k n).2.1 = 0 → ∃ m, (0 < k → 0 < m) ∧ (vgo l a f k n).1 = n + m * 128 ^ k ∧ l.take (vgo l a f k n).2.2 = l.take (a + k) ++ vb m
  | 0, k, n, h => by simp [vgo] at h
  | f + 1, k, n, h => by
    rw [vgo] at h ⊢
    split at h
    · simp at h
    · rename_i h1
      rw [if_neg h1]
      split at h
      · simp at h
      · rename_i h2
        rw [if_neg h2]
        have hlt : a + k < l.length := by omega
        have h8 := UInt8.toNat_lt (l.getD (a + k) 0)
        split at h
        · rename_i h3
          rw [if_pos h3]
          refine ⟨(l.getD (a + k) 0).toNat, fun h0 => ?_, rfl, ?_⟩
          · rcases Nat.eq_zero_or_pos (l.getD (a + k) 0).toNat with h4 | h4
            · exact absurd (.inl ⟨h0, h4⟩) h2
            · exact h4
          · show l.take (a + k + 1) = _
            rw [take_one l _ hlt, vb_small h3, ofNat_toNat _ _ rfl]
        · rename_i h3
          rw [if_neg h3]
          obtain ⟨m, hm0, hm1, hm2⟩ := vgo_canon l a f (k + 1) _ h
          have hmp := hm0 (by omega)
          have hd : ((l.getD (a + k) 0).toNat - 128 + 128 * m) % 128 = (l.getD (a + k) 0).toNat - 128 := by omega
          have hq : ((l.getD (a + k) 0).toNat - 128 + 128 * m) / 128 = m := by omega
          refine ⟨(l.getD (a + k) 0).toNat - 128 + 128 * m, fun _ => by omega, ?_, ?_⟩
          · rw [hm1, Nat.add_mul, Nat.pow_succ, ← Nat.add_assoc, Nat.mul_comm 128 m, Nat.mul_assoc, Nat.mul_comm 128 (128 ^ k)]
          · have hv : vb ((l.getD (a + k) 0).toNat - 128 + 128 * m) = l.getD (a + k) 0 :: vb m := by
              rw [vb_big (by omega), hd, hq, ofNat_toNat (l.getD (a + k) 0) _ (by omega)]
            rw [hm2, hv, ← Nat.add_assoc, take_one l _ hlt, List.append_assoc]
            rfl
theorem vrd_canon (l : List UInt8) (a : Nat) (h : (vrd l a).2.1 = 0) : l.take (vrd l a).2.2 = l.take a ++ vb (vrd l a).1 := by
  obtain ⟨m, _, h1, h2⟩ := vgo_canon l a 10 0 0 h
  unfold vrd at *
  rw [h2, h1]
  simp
theorem by8_dB (l : List UInt8) (i : Nat) : by8 (dB l i) = l.getD i 0 := by
  have h := (l.getD i 0).toNat_lt
  have h1 := by8_nat (dB l i) ⟨by unfold dB; omega, by unfold dB; omega⟩
  unfold dB at h1
  exact UInt8.toNat_inj.1 (by unfold dB; omega)
theorem by8_cast (b : UInt8) (n : Nat) (h : b.toNat = n) : by8 (n : Int) = b := by
  have h0 := b.toNat_lt
  have h1 := by8_nat (n : Int) ⟨by omega, by omega⟩
  exact UInt8.toNat_inj.1 (by omega)
theorem dI_canon (l : List UInt8) (a : Nat) (h5 : a + 5 ≤ l.length) (h : (vrd l (a + 5)).2.1 = 0) : l.take (vrd l (a + 5)).2.2 = l.take a ++ insB (dI l a (vrd l (a + 5)).1) := by
  rw [vrd_canon l (a + 5) h]
  unfold insB dI
  simp only [by8_dB]
  rw [take_one l (a + 4) (by omega), take_one l (a + 3) (by omega), take_one l (a + 2) (by omega), take_one l (a + 1) (by omega), take_one l a (by omega)]
  simp only [List.append_assoc, List.singleton_append, List.cons_append, List.nil_append]
theorem dIs_canon (l : List UInt8) : ∀ (n a : Nat) (acc : List Ins) (q : List Ins × Nat), a ≤ l.length → dIs l n a acc = some q → ∃ ys, q.1 = acc ++ ys ∧ ys.length = n ∧ l.take q.2 = l.take a ++ ys.flatMap insB
  | 0, a, acc, q, h, hq => by
    cases Option.some.inj hq
    exact ⟨[], by simp, rfl, by simp⟩
  | n + 1, a, acc, q, h, hq => by
    unfold dIs at hq
    split at hq
    · cases hq
    · split at hq
      · rename_i h1 h2
        obtain ⟨ys, e1, e2, e3⟩ := dIs_canon l n _ _ q (vrd_facts l (a + 5) (by omega)).2.2.2 hq
        refine ⟨dI l a (vrd l (a + 5)).1 :: ys, ?_, by rw [List.length_cons, e2], ?_⟩
        · rw [e1, List.append_assoc]; rfl
        · rw [e3, dI_canon l a (by omega) h2, List.append_assoc, List.flatMap_cons]
      · cases hq
theorem dTs_canon (l : List UInt8) : ∀ (n a : Nat) (acc : List (List Ins)) (q : List (List Ins) × Nat), a ≤ l.length → dTs l n a acc = some q → ∃ ys, q.1 = acc ++ ys ∧ ys.length = n ∧ l.take q.2 = l.take a ++ ys.flatMap thBy
  | 0, a, acc, q, h, hq => by
    cases Option.some.inj hq
    exact ⟨[], by simp, rfl, by simp⟩
  | n + 1, a, acc, q, h, hq => by
    unfold dTs at hq
    split at hq
    · rename_i h1
      split at hq
      · cases hq
      · have hle := (vrd_facts l a h).2.2.2
        obtain ⟨r, hr, hq⟩ := Option.bind_eq_some_iff.1 hq
        obtain ⟨xs, f1, f2, f3⟩ := dIs_canon l _ _ _ r hle hr
        obtain ⟨ys, e1, e2, e3⟩ := dTs_canon l n _ _ q (dIs_le l _ _ _ r hle hr) hq
        rw [List.nil_append] at f1
        refine ⟨r.1 :: ys, ?_, by rw [List.length_cons, e2], ?_⟩
        · rw [e1, List.append_assoc]; rfl
        · rw [e3, f3, vrd_canon l a h1, List.flatMap_cons]
          conv => rhs; unfold thBy
          rw [f1, f2]
          simp only [List.append_assoc]
          rfl
    · cases hq
theorem dRs_canon (l : List UInt8) : ∀ n : Nat, 1 + 3 * n ≤ l.length → l.take (1 + 3 * n) = l.take 1 ++ ((List.range n).map (dR l)).flatMap rngBy
  | 0, h => by simp
  | n + 1, h => by
    have e : 1 + 3 * (n + 1) = 1 + 3 * n + 1 + 1 + 1 := by omega
    rw [e, take_one l (1 + 3 * n + 1 + 1) (by omega), take_one l (1 + 3 * n + 1) (by omega), take_one l (1 + 3 * n) (by omega), dRs_canon l n (by omega), List.range_succ, List.map_append, List.flatMap_append, List.map_singleton, List.flatMap_singleton]
    unfold rngBy dR
    simp only [by8_dB]
    rw [show 2 + 3 * n = 1 + 3 * n + 1 by omega, show 3 + 3 * n = 1 + 3 * n + 1 + 1 by omega]
    simp only [List.append_assoc, List.singleton_append, List.cons_append, List.nil_append]
theorem dAll_canon (l : List UInt8) (p : Prg) (h : dAll l = some p) : prB p = l := by
  rw [dAll_def] at h
  split at h
  · cases h
  · split at h
    · cases h
    · rename_i h0 h1
      unfold dFin at h
      obtain ⟨q, hq, h⟩ := Option.bind_eq_some_iff.1 h
      split at h
      · rename_i h2
        cases Option.some.inj h
        generalize hn : (l.getD 0 0).toNat = n at *
        generalize hm : (l.getD (1 + 3 * n) 0).toNat = m at *
        obtain ⟨ys, e1, e2, e3⟩ := dTs_canon l m _ _ q (by omega) hq
        rw [List.nil_append] at e1
        rw [h2.1, List.take_length] at e3
        unfold prB
        simp only
        rw [List.length_map, List.length_range, by8_cast _ _ hn, e1, e2, by8_cast _ _ hm]
        conv => rhs; rw [e3]
        rw [show 2 + 3 * n = 1 + 3 * n + 1 by omega, take_one l (1 + 3 * n) (by omega), dRs_canon l n (by omega), take_one l 0 (by omega)]
        simp only [List.take_zero, List.nil_append, List.append_assoc, List.singleton_append, List.cons_append]
      · cases h
theorem rread_p (s : ByteArray) (hs : s.size ≤ 140737488351232) (w : World) :
    Calls Try.prog 25 #[.string s] w fun e w' => (∃ v, e = .returned (.tuple #[v, .bool (rdAll s.data.toList).isSome]) ∧ PArg w' v ((rdAll s.data.toList).getD ⟨[], []⟩)) ∧ Ext w w' := by
  refine (rread_doc s hs w).mono ?_
  rw [dAll_eq]
  rintro e w' ⟨⟨A, B, ca, cb, n, m, p, he, hp, rfl, rfl, h1, h2, h3⟩, hx⟩
  refine ⟨⟨_, he, ?_⟩, hx⟩
  rw [← hp]
  cases hr : rdAll s.data.toList with
  | none =>
    rw [hr] at hp
    subst hp
    exact ⟨⟨A, B, ca, cb, rfl, h1, h2, h3⟩, (by intro l hl; cases hl), (by show 0 ≤ _; omega), (by show 0 ≤ _; omega), (by intro l hl; cases hl)⟩
  | some q =>
    rw [hr] at hp
    subst hp
    obtain ⟨hw, hok⟩ := rdAll_some _ _ hr
    obtain ⟨h8, h9⟩ := written_few _ hw
    exact ⟨⟨A, B, ca, cb, rfl, h1, h2, h3⟩, hok, (by omega), (by omega), fun l hl => by have := written_short2 _ hw l hl; omega⟩
end Go.Proofs.Ytklkboibpglhjaa
