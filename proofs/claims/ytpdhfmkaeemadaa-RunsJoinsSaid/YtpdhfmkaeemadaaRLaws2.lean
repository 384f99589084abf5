/- Layer 4's laws: printed and read. -/
import Derived.Test.YtpdhfmkaeemadaaRLaws
namespace Go.Proofs.Ytpdhfmkaeemadaa
open Go.RowKit Go.WideShapes
set_option linter.unusedVariables false
set_option linter.unusedSimpArgs false
theorem rd2_at (X Y : List UInt8) (v d : Nat) (hv : v < 18446744073709551616) (hd : d < 18446744073709551616) (L : List UInt8) (hL : L = X ++ (vb v ++ vb d) ++ Y) :
    rd2 L X.length = (v, d, 0, X.length + (vb v ++ vb d).length) := by
  have h1 := vrd_vb X (vb d ++ Y) v hv
  have h2 := vrd_vb (X ++ vb v) Y d hd
  have e1 : X ++ vb v ++ (vb d ++ Y) = L := by rw [hL]; simp
  have e2 : X ++ vb v ++ vb d ++ Y = L := by rw [hL]; simp
  rw [e1] at h1
  rw [e2, List.length_append] at h2
  unfold rd2
  rw [h1, if_pos rfl]
  simp only
  rw [h2, List.length_append, Nat.add_assoc]
theorem okR_last (q : List Rn) (v c : Nat) (h : okR (q ++ [(v, c)])) : (expand q).getLast? ≠ some v := by
  have h2 := (okR_snoc q v c).1 h
  rcases List.eq_nil_or_concat q with rfl | ⟨q', ⟨u, d⟩, rfl⟩
  · simp [expand]
  · simp only [List.concat_eq_append] at h2 ⊢
    have hd := ((okR_snoc q' u d).1 h2.1).2.1
    obtain ⟨d, rfl⟩ : ∃ k, d = k + 1 := ⟨d - 1, by omega⟩
    rw [expand_snoc, List.replicate_succ', ← List.append_assoc, List.getLast?_concat]
    have := h2.2.2 (u, d + 1) (by rw [List.getLast?_concat])
    simpa using this
theorem okR_prefix : ∀ (q p : List Rn), okR (q ++ p) → okR q
  | [], _, _ => trivial
  | [r], [], h => h
  | [r], s :: p, h => ⟨h.1, by simp, trivial⟩
  | r :: t :: q, p, h => ⟨h.1, by simpa using h.2.1, okR_prefix (t :: q) p h.2.2⟩
theorem rls_rbs (more H : List UInt8) (P : List Rn) (hok : okR P) (hall : AllR P) (most : Nat) (hm : (expand P).length ≤ most) (L : List UInt8) (hL : L = H ++ rbs P ++ more) :
    ∀ (k : Nat) (q p : List Rn), P = q ++ p → p.length = k → rls L most k (H.length + (rbs q).length) (expand q) = (expand P, 0, H.length + (rbs P).length)
  | 0, q, p, hP, hk => by
    obtain rfl : p = [] := List.eq_nil_of_length_eq_zero hk
    rw [List.append_nil] at hP
    subst hP
    rw [rls]
  | k + 1, q, p, hP, hk => by
    obtain ⟨⟨v, c⟩, p, rfl⟩ : ∃ n p', p = n :: p' := by
      cases p with
      | nil => simp at hk
      | cons n p' => exact ⟨n, p', rfl⟩
    have hP2 : P = (q ++ [(v, c)]) ++ p := by rw [hP]; simp
    have hg : P.getD q.length (0, 0) = (v, c) := by rw [hP]; simp
    have hql : q.length < P.length := by rw [hP]; simp
    have hb := hall q.length hql
    have hc1 := okR_count P hok q.length hql
    rw [hg] at hb hc1
    simp only at hb hc1
    obtain ⟨d, rfl⟩ : ∃ d, c = d + 1 := ⟨c - 1, by omega⟩
    have hrb : ∀ a b : List Rn, rbs (a ++ b) = rbs a ++ rbs b := fun a b => by simp [rbs]
    have hone : rbs [(v, d + 1)] = vb v ++ vb d := by simp [rbs]
    have h1 := rd2_at (H ++ rbs q) (rbs p ++ more) v d hb.1 (by omega) L (by rw [hL, hP2, hrb, hrb, hone]; simp)
    rw [List.length_append] at h1
    rw [rls, h1]
    have hokq : okR (q ++ [(v, d + 1)]) := okR_prefix _ p (by rw [← hP2]; exact hok)
    have hlen : (expand (q ++ [(v, d + 1)])).length ≤ most := by
      have : (expand P).length = (expand (q ++ [(v, d + 1)])).length + (expand p).length := by rw [hP2]; simp [expand]; omega
      omega
    rw [expand_len_snoc] at hlen
    simp only
    rw [if_pos trivial, if_neg (okR_last q v (d + 1) hokq), if_neg (by omega)]
    have := rls_rbs more H P hok hall most hm L hL k (q ++ [(v, d + 1)]) p hP2 (by simpa using hk)
    have hlq : (rbs q ++ (vb v ++ vb d)).length = (rbs q).length + (vb v ++ vb d).length := List.length_append
    rw [expand_snoc, hrb, hone, hlq, ← Nat.add_assoc] at this
    exact this
theorem rrl_rbl (l : List Nat) (more : List UInt8) (ha : AllLt l) (hl : l.length ≤ 1000000) : rrl (rbl (pk l) ++ more) 0 l.length = (l, 0, (rbl (pk l)).length) := by
  have hpl := pk_len_le l
  have h0 := vrd_vb [] (rbs (pk l) ++ more) (pk l).length (by omega)
  simp only [List.nil_append, List.length_nil, Nat.zero_add] at h0
  have e0 : rbl (pk l) ++ more = vb (pk l).length ++ (rbs (pk l) ++ more) := by unfold rbl; rw [List.append_assoc]
  rw [← e0] at h0
  have h1 := rls_rbs more (vb (pk l).length) (pk l) (ok_pk l) (allR_pk l ha hl) l.length (by rw [expand_pk]; exact Nat.le_refl _) (rbl (pk l) ++ more) (by rw [e0, List.append_assoc]) (pk l).length [] (pk l) rfl rfl
  rw [expand_pk, show rbs [] = [] from rfl, List.length_nil, Nat.add_zero, show expand [] = [] from rfl] at h1
  unfold rrl
  rw [if_neg (by omega), h0]
  simp only
  rw [if_pos trivial, Int.toNat_natCast, h1, rbl, List.length_append]
theorem rbs_len (p : List Rn) (ha : AllR p) : (rbs p).length ≤ 20 * p.length := by
  have : ∀ k, k ≤ p.length → (rbs (p.take k)).length ≤ 20 * k := by
    intro k
    induction k with
    | zero => intro _; simp [rbs]
    | succ k ih =>
      intro hk
      have h1 := ha k (by omega)
      have h2 := vb_len10 _ h1.1
      have h3 := vb_len10 ((p.getD k (0, 0)).2 - 1) (by omega)
      have := ih (by omega)
      rw [rbs_take p k (by omega), List.length_append, List.length_append]; omega
  have := this p.length (Nat.le_refl _)
  rwa [List.take_length] at this
set_option maxRecDepth 20000 in
set_option maxHeartbeats 4000000 in
theorem runsPrints_walk (A : Option Addr) (ca : Nat) (l : List Nat) (more : ByteArray) (hmo : more.size ≤ 140737488351232) (w : World) (ra : ArgRow (repU .u64 18446744073709551616) 1 w A l.length l) (hpa : l.length ≤ 9223372036854775807) :
    Calls Try.prog 7 #[.slice A l.length ca, .string more] w fun e w' => e = .returned (.bool true) ∧ Ext w w' := by
  have ha := ra.allLt
  have hr := ra.nrow
  by_cases h0 : l.length ≤ 300
  · by_cases h1 : more.size ≤ 100
    · have hp1 := pk_len_le l
      have hb := rbs_len (pk l) (allR_pk l ha (by omega))
      have hb1 := vb_len10 (pk l).length (by omega)
      have hbl : (rbl (pk l)).length ≤ 6010 := by rw [rbl, List.length_append]; omega
      have HB := Lib.hid (rrl_rbl l more.data.toList ha (by omega))
      have HP := Lib.hid (fun w (hr : NRow w A l) => runprint_any A ca l.length l w rfl (by omega) hr ha)
      have HR := Lib.hid (fun w (hr : NRow w A l) => rrunprint_any A ca l.length l w rfl (by omega) hr ha)
      obtain ⟨t, ht⟩ : ∃ t : ByteArray, t = ⟨(rbl (pk l)).toArray⟩ := ⟨_, rfl⟩
      have HT := Lib.hid (show (t ++ more).data.toList = rbl (pk l) ++ more.data.toList by rw [ByteArray.data_append, Array.toList_append, ht])
      have htz : t.size = (rbl (pk l)).length := by rw [ht]; rfl
      rw [← ht] at HP HR
      have htb : t.size ≤ 6010 := by omega
      have hts : (t ++ more).size ≤ 6110 := by rw [ByteArray.size_append]; omega
      have HZ := Lib.hid htz
      clear ht htz hb hb1 hbl hp1
      obtain ⟨m, hm⟩ : ∃ m, m = l.length := ⟨_, rfl⟩
      rw [← hm] at h0 HP HR HB ⊢
      have HM := Lib.hid hm
      clear hm hpa ra
      go_enter Try.func7, Try.ntmps7
      go_wp2_with (first
        | (go_at_call 9; refine (rawake_any _).mono ?_; rintro e w1 ⟨rfl, x1⟩; have h := (St.start noB w).ext x1)
        | (go_at_call 16; refine (HP.out _ (hr.ext h.ends)).mono ?_; rintro e w2 ⟨rfl, x2⟩; have h2 := h.ext x2)
        | (go_at_call 17; refine (new_st h2 (t ++ more)).mono ?_; rintro e w3 ⟨rfl, h3⟩; have HV := Lib.hid (runread_st h3 (by omega) (by omega) (m : Int) (by omega)); rw [HT.out, HB.out] at HV; simp only [← HZ.out] at HV; unfold nlT at HV; rw [← HM.out] at HV)
        | (go_at_call 18; refine HV.out.mono ?_; rintro e w4 ⟨v, rfl, h4⟩; obtain ⟨A4, c4, rfl⟩ := h4.own.form; have HRR := HR.out _ (hr.ext h4.ends); have HQ := Lib.hid HRR; clear HRR)
        | (go_at_call 19; refine HQ.out.mono ?_; rintro e w5 ⟨rfl, x5⟩; have h5 := h4.ext x5; have HN := nsame_m h5 A4 A c4 ca l l m HM.out.symm HM.out.symm (by omega) (Own.nrow h5.own HM.out.symm) (hr.ext h5.ends) rfl; have HNN := Lib.hid HN; clear HN)
        | (go_at_call 14; refine HNN.out.mono ?_; rintro e w6 ⟨rfl, h6⟩; have HA := at_any h6.swap.rd; have HAA := Lib.hid HA; clear HA)
        | (go_at_call 20; refine HAA.out.mono ?_; rintro e w7 ⟨rfl, rfl⟩))
      go_ret
      exact ⟨rfl, h6.ends⟩
    · obtain ⟨m, hm⟩ : ∃ m, m = l.length := ⟨_, rfl⟩
      rw [← hm] at h0 ⊢
      clear hm hpa ra hr ha
      go_enter Try.func7, Try.ntmps7
      go_wp2_with (go_at_call 9; refine (rawake_any _).mono ?_; rintro e w1 ⟨rfl, x1⟩)
      go_ret
      exact ⟨rfl, Mut.trans (by assumption) x1⟩
  · obtain ⟨m, hm⟩ : ∃ m, m = l.length := ⟨_, rfl⟩
    rw [← hm] at h0 hpa ⊢
    clear hm ra hr ha
    go_enter Try.func7, Try.ntmps7
    go_wp2_with (go_at_call 9; refine (rawake_any _).mono ?_; rintro e w1 ⟨rfl, x1⟩)
    go_ret
    exact ⟨rfl, Mut.trans (by assumption) x1⟩
end Go.Proofs.Ytpdhfmkaeemadaa
