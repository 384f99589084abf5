/- Layer 4: what is printed is read as it was: plain. -/
import Derived.Test.YtclhmlgbhlmekaaHd
namespace Go.Proofs.Ytclhmlgbhlmekaa
open Go.RowKit
set_option linter.unusedVariables false
set_option linter.unusedSimpArgs false
theorem rd2_at (X Y : List UInt8) (v d : Nat) (hv : v < 18446744073709551616) (hd : d < 18446744073709551616) (L : List UInt8) (hL : L = X ++ (vb v ++ vb d) ++ Y) :
    rd2 L X.length = (v, d, 0, X.length + (vb v ++ vb d).length) := by
  have h1 := vrd_vb X (vb d ++ Y) v hv
  have h2 := vrd_vb (X ++ vb v) Y d hd
  have e1 : X ++ vb v ++ (vb d ++ Y) = L := by rw [hL]; simp
  have e2 : X ++ vb v ++ vb d ++ Y = L := by rw [hL]; simp
  rw [e1] at h1
  rw [e2, List.length_append] at h2
  unfold rd2
  rw [h1, if_pos rfl]
  simp only
  rw [h2, List.length_append, Nat.add_assoc]
theorem okR_last (q : List Rn) (v c : Nat) (h : okR (q ++ [(v, c)])) : (expand q).getLast? ≠ some v := by
  have h2 := (okR_snoc q v c).1 h
  rcases List.eq_nil_or_concat q with rfl | ⟨q', ⟨u, d⟩, rfl⟩
  · simp [expand]
  · simp only [List.concat_eq_append] at h2 ⊢
    have hd := ((okR_snoc q' u d).1 h2.1).2.1
    obtain ⟨d, rfl⟩ : ∃ k, d = k + 1 := ⟨d - 1, by omega⟩
    rw [expand_snoc, List.replicate_succ', ← List.append_assoc, List.getLast?_concat]
    have := h2.2.2 (u, d + 1) (by rw [List.getLast?_concat])
    simpa using this
theorem okR_prefix : ∀ (q p : List Rn), okR (q ++ p) → okR q
  | [], _, _ => trivial
  | [r], [], h => h
  | [r], s :: p, h => ⟨h.1, by simp, trivial⟩
  | r :: t :: q, p, h => ⟨h.1, by simpa using h.2.1, okR_prefix (t :: q) p h.2.2⟩
theorem rls_rbs (more H : List UInt8) (P : List Rn) (hok : okR P) (hall : AllR P) (most : Nat) (hm : (expand P).length ≤ most) (L : List UInt8) (hL : L = H ++ rbs P ++ more) :
    ∀ (k : Nat) (q p : List Rn), P = q ++ p → p.length = k → rls L most k (H.length + (rbs q).length) (expand q) = (expand P, 0, H.length + (rbs P).length)
  | 0, q, p, hP, hk => by
    obtain rfl : p = [] := List.eq_nil_of_length_eq_zero hk
    rw [List.append_nil] at hP
    subst hP
    rw [rls]
  | k + 1, q, p, hP, hk => by
    obtain ⟨⟨v, c⟩, p, rfl⟩ : ∃ n p', p = n :: p' := by
      cases p with
      | nil => simp at hk
      | cons n p' => exact ⟨n, p', rfl⟩
    have hP2 : P = (q ++ [(v, c)]) ++ p := by rw [hP]; simp
    have hg : P.getD q.length (0, 0) = (v, c) := by rw [hP]; simp
    have hql : q.length < P.length := by rw [hP]; simp
    have hb := hall q.length hql
    have hc1 := okR_count P hok q.length hql
    rw [hg] at hb hc1
    simp only at hb hc1
    obtain ⟨d, rfl⟩ : ∃ d, c = d + 1 := ⟨c - 1, by omega⟩
    have hrb : ∀ a b : List Rn, rbs (a ++ b) = rbs a ++ rbs b := fun a b => by simp [rbs]
    have hone : rbs [(v, d + 1)] = vb v ++ vb d := by simp [rbs]
    have h1 := rd2_at (H ++ rbs q) (rbs p ++ more) v d hb.1 (by omega) L (by rw [hL, hP2, hrb, hrb, hone]; simp)
    rw [List.length_append] at h1
    rw [rls, h1]
    have hokq : okR (q ++ [(v, d + 1)]) := okR_prefix _ p (by rw [← hP2]; exact hok)
    have hlen : (expand (q ++ [(v, d + 1)])).length ≤ most := by
      have : (expand P).length = (expand (q ++ [(v, d + 1)])).length + (expand p).length := by rw [hP2]; simp [expand]; omega
      omega
    rw [expand_len_snoc] at hlen
    simp only
    rw [if_pos trivial, if_neg (okR_last q v (d + 1) hokq), if_neg (by omega)]
    have := rls_rbs more H P hok hall most hm L hL k (q ++ [(v, d + 1)]) p hP2 (by simpa using hk)
    have hlq : (rbs q ++ (vb v ++ vb d)).length = (rbs q).length + (vb v ++ vb d).length := List.length_append
    rw [expand_snoc, hrb, hone, hlq, ← Nat.add_assoc] at this
    exact this
theorem rrl_rbl (H : List UInt8) (l : List Nat) (more : List UInt8) (ha : AllLt l) (hl : l.length ≤ 1000000) : rrl (H ++ rbl (pk l) ++ more) H.length l.length = (l, 0, H.length + (rbl (pk l)).length) := by
  have hpl : (pk l).length ≤ l.length := by
    have := len_le_expand (pk l) (ok_pk l)
    rwa [expand_pk] at this
  have h0 := vrd_vb H (rbs (pk l) ++ more) (pk l).length (by omega)
  have e0 : H ++ rbl (pk l) ++ more = H ++ vb (pk l).length ++ (rbs (pk l) ++ more) := by unfold rbl; simp only [List.append_assoc]
  rw [← e0] at h0
  have h1 := rls_rbs more (H ++ vb (pk l).length) (pk l) (ok_pk l) (allR_pk l ha hl) l.length (by rw [expand_pk]; exact Nat.le_refl _) (H ++ rbl (pk l) ++ more) (by rw [e0, List.append_assoc, List.append_assoc, List.append_assoc]) (pk l).length [] (pk l) rfl rfl
  rw [expand_pk, show rbs [] = [] from rfl, List.length_nil, Nat.add_zero, show expand [] = [] from rfl, List.length_append] at h1
  unfold rrl
  rw [if_neg (by omega), h0]
  simp only
  rw [if_pos trivial, Int.toNat_natCast, h1, rbl, List.length_append, Nat.add_assoc]
end Go.Proofs.Ytclhmlgbhlmekaa
