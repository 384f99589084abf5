/- Layer 21: what is printed is read as it was: the streams (plain). -/
import Derived.Test.YtjdglpngcdcneaaGreatEUnpP
namespace Go.Proofs.YtjdglpngcdcneaaGreat
open Go.RowKit Go.WideShapes
set_option linter.unusedVariables false
set_option linter.unusedSimpArgs false
set_option linter.unusedSectionVars false
theorem vbl_readH (H : List UInt8) (l : List Nat) (more : List UInt8) (hl : l.length < 18446744073709551616) (ha : AllLt l) : vrl (H ++ vbl l ++ more) H.length l.length = (l, 0, H.length + (vbl l).length) := by
  have h0 := vrd_vb H (vbs l ++ more) l.length hl
  have e0 : H ++ vbl l ++ more = H ++ vb l.length ++ (vbs l ++ more) := by unfold vbl; simp
  have key : ∀ (k : Nat) (p q acc : List Nat), l = p ++ q → q.length = k → acc = p →
      vls (H ++ vbl l ++ more) k (H.length + (vb l.length).length + (vbs p).length) acc = (l, 0, H.length + (vbl l).length) := by
    intro k
    induction k with
    | zero =>
      intro p q acc hpq hq hacc
      obtain rfl : q = [] := List.eq_nil_of_length_eq_zero hq
      rw [List.append_nil] at hpq
      subst hpq
      rw [vls, hacc, vbl, List.length_append, Nat.add_assoc]
    | succ k ih =>
      intro p q acc hpq hq hacc
      obtain ⟨n, q, rfl⟩ : ∃ n q', q = n :: q' := by
        cases q with
        | nil => simp at hq
        | cons n q' => exact ⟨n, q', rfl⟩
      have hn : n < 18446744073709551616 := by
        have := ha p.length (by rw [hpq]; simp)
        rw [hpq, List.getD_eq_getElem?_getD, List.getElem?_append_right (Nat.le_refl _)] at this
        simpa using this
      have e1 : H ++ vbl l ++ more = (H ++ vb l.length ++ vbs p) ++ vb n ++ (vbs q ++ more) := by
        rw [e0, show vbs l = vbs p ++ (vb n ++ vbs q) by rw [hpq]; simp [vbs]]; simp
      have h1 := vrd_vb (H ++ vb l.length ++ vbs p) (vbs q ++ more) n hn
      rw [← e1, List.length_append, List.length_append] at h1
      rw [vls, h1, if_pos rfl]
      have := ih (p ++ [n]) q (acc ++ [n]) (by rw [hpq]; simp) (by simpa using hq) (by rw [hacc])
      rw [vbs_snoc, List.length_append, ← Nat.add_assoc] at this
      exact this
  have h1 := key l.length [] l [] rfl rfl rfl
  rw [show vbs [] = [] from rfl, List.length_nil, Nat.add_zero] at h1
  unfold vrl
  rw [if_neg (by omega)]
  rw [← e0] at h0
  rw [h0, if_pos rfl, if_neg (by omega)]
  exact h1
theorem drl_dbl (H : List UInt8) (l : List Nat) (more : List UInt8) (ha : AllLt l) (hl : l.length ≤ 1000000) : drl (H ++ dbl l ++ more) H.length l.length = (l, 0, H.length + (dbl l).length) := by
  have h := vbl_readH H (deltas l) more (by rw [deltas_len]; omega) (deltas_lt l ha)
  rw [deltas_len] at h
  unfold drl dbl
  rw [h, if_pos rfl]
  rw [sums_deltas l ha]
/-- as many as there are, or more, may be read -/
theorem rrl_most_rbl (l : List Nat) (more : List UInt8) (ha : AllLt l) (hl : l.length ≤ 1000000) (most : Nat) (hm : l.length ≤ most) : rrl (rbl (pk l) ++ more) 0 most = (l, 0, (rbl (pk l)).length) := by
  have hpl : (pk l).length ≤ l.length := by
    have := len_le_expand (pk l) (ok_pk l)
    rwa [expand_pk] at this
  have h0 := vrd_vb [] (rbs (pk l) ++ more) (pk l).length (by omega)
  have e0 : rbl (pk l) ++ more = [] ++ vb (pk l).length ++ (rbs (pk l) ++ more) := by unfold rbl; simp
  rw [← e0, List.length_nil] at h0
  have h1 := rls_rbs more (vb (pk l).length) (pk l) (ok_pk l) (allR_pk l ha hl) most (by rw [expand_pk]; exact hm) (rbl (pk l) ++ more) rfl (pk l).length [] (pk l) rfl rfl
  rw [expand_pk, show rbs [] = [] from rfl, List.length_nil, Nat.add_zero, show expand [] = [] from rfl] at h1
  unfold rrl
  rw [if_neg (by omega), h0]
  simp only [Nat.zero_add]
  rw [if_pos trivial, Int.toNat_natCast, h1, rbl, List.length_append]
/-- fewer may not -/
theorem rls_long (more H : List UInt8) (P : List Rn) (hok : okR P) (hall : AllR P) (most : Nat) (hm : most < (expand P).length) (L : List UInt8) (hL : L = H ++ rbs P ++ more) :
    ∀ (k : Nat) (q p : List Rn), P = q ++ p → p.length = k → (expand q).length ≤ most → (rls L most k (H.length + (rbs q).length) (expand q)).2.1 ≠ 0
  | 0, q, p, hP, hk, hq => by
    obtain rfl : p = [] := List.eq_nil_of_length_eq_zero hk
    rw [List.append_nil] at hP
    subst hP
    omega
  | k + 1, q, p, hP, hk, hq => by
    obtain ⟨⟨v, c⟩, p, rfl⟩ : ∃ n p', p = n :: p' := by
      cases p with
      | nil => simp at hk
      | cons n p' => exact ⟨n, p', rfl⟩
    have hP2 : P = (q ++ [(v, c)]) ++ p := by rw [hP]; simp
    have hg : P.getD q.length (0, 0) = (v, c) := by rw [hP]; simp
    have hql : q.length < P.length := by rw [hP]; simp
    have hb := hall q.length hql
    have hc1 := okR_count P hok q.length hql
    rw [hg] at hb hc1
    simp only at hb hc1
    obtain ⟨d, rfl⟩ : ∃ d, c = d + 1 := ⟨c - 1, by omega⟩
    have hrb : ∀ a b : List Rn, rbs (a ++ b) = rbs a ++ rbs b := fun a b => by simp [rbs]
    have hone : rbs [(v, d + 1)] = vb v ++ vb d := by simp [rbs]
    have h1 := rd2_at (H ++ rbs q) (rbs p ++ more) v d hb.1 (by omega) L (by rw [hL, hP2, hrb, hrb, hone]; simp)
    rw [List.length_append] at h1
    rw [rls, h1]
    have hokq : okR (q ++ [(v, d + 1)]) := okR_prefix _ p (by rw [← hP2]; exact hok)
    simp only
    rw [if_pos trivial, if_neg (okR_last q v (d + 1) hokq)]
    by_cases hd : most ≤ d + (expand q).length
    · rw [if_pos hd]; simp
    · rw [if_neg hd]
      have hlen : (expand (q ++ [(v, d + 1)])).length ≤ most := by rw [expand_len_snoc]; omega
      have := rls_long more H P hok hall most hm L hL k (q ++ [(v, d + 1)]) p hP2 (by simpa using hk) hlen
      have hlq : (rbs q ++ (vb v ++ vb d)).length = (rbs q).length + (vb v ++ vb d).length := List.length_append
      rw [expand_snoc, hrb, hone, hlq, ← Nat.add_assoc] at this
      exact this
theorem rrl_long (l : List Nat) (more : List UInt8) (ha : AllLt l) (hl : l.length ≤ 1000000) (most : Nat) (hm : most < l.length) : (rrl (rbl (pk l) ++ more) 0 most).2.1 ≠ 0 := by
  have hpl : (pk l).length ≤ l.length := by
    have := len_le_expand (pk l) (ok_pk l)
    rwa [expand_pk] at this
  have h0 := vrd_vb [] (rbs (pk l) ++ more) (pk l).length (by omega)
  have e0 : rbl (pk l) ++ more = [] ++ vb (pk l).length ++ (rbs (pk l) ++ more) := by unfold rbl; simp
  rw [← e0, List.length_nil] at h0
  have h1 := rls_long more (vb (pk l).length) (pk l) (ok_pk l) (allR_pk l ha hl) most (by rw [expand_pk]; exact hm) (rbl (pk l) ++ more) rfl (pk l).length [] (pk l) rfl rfl (Nat.zero_le _)
  rw [show rbs [] = [] from rfl, List.length_nil, Nat.add_zero, show expand [] = [] from rfl] at h1
  unfold rrl
  rw [if_neg (by omega), h0]
  simp only [Nat.zero_add]
  rw [if_pos trivial, Int.toNat_natCast]
  exact h1
structure BackOK (x : Strm) : Prop where
  back : ∀ (H : List UInt8) (l : List Nat) (more : List UInt8), AllLt l → l.length ≤ 1000000 → x.R (H ++ x.B l ++ more) H.length l.length = (l, 0, H.length + (x.B l).length)
  vlt : ∀ e : Ev, rightE e → e.vl < 18446744073709551616 → x.V e < 18446744073709551616
theorem back_ok (j : Nat) (hj : j < 4) : BackOK (strm 0 0 0 j) := by
  match j, hj with
  | 0, _ => exact ⟨rrl_rbl, fun e h _ => (by have := right_kd h; show V0 e < _; omega)⟩
  | 1, _ => exact ⟨rrl_rbl, fun e h _ => (by have := right_rg h; show V1 e < _; omega)⟩
  | 2, _ => exact ⟨drl_dbl, fun e h _ => (by have := h.2.2.2.2.2.2; show e.tk < _; omega)⟩
  | 3, _ => exact ⟨drl_dbl, fun e h hv => hv⟩
end Go.Proofs.YtjdglpngcdcneaaGreat
