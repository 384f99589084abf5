/- Layer 3's laws: more walks. -/
import Derived.Test.YtkjnpjkfagdegaaDLaws
namespace Go.Proofs.Ytkjnpjkfagdegaa
open Go.RowKit
set_option linter.unusedVariables false
set_option linter.unusedSimpArgs false
theorem vbl_read (l : List Nat) (more : List UInt8) (hl : l.length < 18446744073709551616) (ha : AllLt l) : vrl (vbl l ++ more) 0 l.length = (l, 0, (vbl l).length) := by
  have h0 := vrd_vb [] (vbs l ++ more) l.length hl
  simp only [List.nil_append, List.length_nil, Nat.zero_add] at h0
  have e0 : vbl l ++ more = vb l.length ++ (vbs l ++ more) := by unfold vbl; rw [List.append_assoc]
  have key : ∀ (k : Nat) (p q acc : List Nat), l = p ++ q → q.length = k → acc = p →
      vls (vbl l ++ more) k ((vb l.length).length + (vbs p).length) acc = (l, 0, (vbl l).length) := by
    intro k
    induction k with
    | zero =>
      intro p q acc hpq hq hacc
      obtain rfl : q = [] := List.eq_nil_of_length_eq_zero hq
      rw [List.append_nil] at hpq
      subst hpq
      rw [vls, hacc, vbl, List.length_append]
    | succ k ih =>
      intro p q acc hpq hq hacc
      obtain ⟨n, q, rfl⟩ : ∃ n q', q = n :: q' := by
        cases q with
        | nil => simp at hq
        | cons n q' => exact ⟨n, q', rfl⟩
      have hn : n < 18446744073709551616 := by
        have := ha p.length (by rw [hpq]; simp)
        rw [hpq, List.getD_eq_getElem?_getD, List.getElem?_append_right (Nat.le_refl _)] at this
        simpa using this
      have e1 : vbl l ++ more = (vb l.length ++ vbs p) ++ vb n ++ (vbs q ++ more) := by
        rw [e0, show vbs l = vbs p ++ (vb n ++ vbs q) by rw [hpq]; simp [vbs]]; simp
      have h1 := vrd_vb (vb l.length ++ vbs p) (vbs q ++ more) n hn
      rw [← e1, List.length_append] at h1
      rw [vls, h1, if_pos rfl]
      have := ih (p ++ [n]) q (acc ++ [n]) (by rw [hpq]; simp) (by simpa using hq) (by rw [hacc])
      rw [vbs_snoc, List.length_append, ← Nat.add_assoc] at this
      exact this
  have h1 := key l.length [] l [] rfl rfl rfl
  rw [show vbs [] = [] from rfl, List.length_nil, Nat.add_zero] at h1
  unfold vrl
  rw [if_neg (by omega)]
  rw [← e0] at h0
  rw [h0, if_pos rfl, if_neg (by omega)]
  exact h1
theorem drl_vbl (l : List Nat) (more : List UInt8) (hl : l.length < 18446744073709551616) (ha : AllLt l) : drl (vbl (deltas l) ++ more) 0 l.length = (l, 0, (vbl (deltas l)).length) := by
  have h := vbl_read (deltas l) more (by rw [deltas_len]; exact hl) (deltas_lt l ha)
  rw [deltas_len] at h
  unfold drl
  rw [h, if_pos rfl]
  rw [sums_deltas l ha]
theorem vbl_len_le (l : List Nat) (ha : AllLt l) (hl : l.length < 18446744073709551616) : (vbl l).length ≤ 10 + 10 * l.length := by
  have h1 := vb_len10 l.length hl
  have h2 := vbs_len_le l ha
  rw [vbl, List.length_append]; omega
set_option maxRecDepth 20000 in
set_option maxHeartbeats 4000000 in
theorem deltaPrints_walk (A : Option Addr) (ca : Nat) (l : List Nat) (more : ByteArray) (hmo : more.size ≤ 140737488351232) (w : World) (ra : ArgRow (repU .u64 18446744073709551616) 1 w A l.length l) (hpa : l.length ≤ 9223372036854775807) :
    Calls Try.prog 7 #[.slice A l.length ca, .string more] w fun e w' => e = .returned (.bool true) ∧ Ext w w' := by
  have ha := ra.allLt
  have hr := ra.nrow
  by_cases h0 : l.length ≤ 200
  · by_cases h1 : more.size ≤ 100
    · have hb := vbl_len_le (deltas l) (deltas_lt l ha) (by rw [deltas_len]; omega)
      rw [deltas_len] at hb
      have HB := Lib.hid (drl_vbl l more.data.toList (by omega) ha)
      have HP := Lib.hid (fun w (hr : NRow w A l) => dprint_any A ca l w (by omega) hr ha)
      have HR := Lib.hid (fun w (hr : NRow w A l) => drprint_any A ca l w (by omega) hr ha)
      obtain ⟨t, ht⟩ : ∃ t : ByteArray, t = ⟨(vbl (deltas l)).toArray⟩ := ⟨_, rfl⟩
      have HT := Lib.hid (show (t ++ more).data.toList = vbl (deltas l) ++ more.data.toList by rw [ByteArray.data_append, Array.toList_append, ht])
      have htz : t.size = (vbl (deltas l)).length := by rw [ht]; rfl
      rw [← ht] at HP HR
      have htb : t.size ≤ 2010 := by omega
      have hts : (t ++ more).size ≤ 2110 := by rw [ByteArray.size_append]; omega
      have HZ := Lib.hid htz
      clear ht htz hb
      obtain ⟨m, hm⟩ : ∃ m, m = l.length := ⟨_, rfl⟩
      rw [← hm] at h0 HP HR HB ⊢
      have HM := Lib.hid hm
      clear hm hpa ra
      go_enter Try.func7, Try.ntmps7
      go_wp2_with (first
        | (go_at_call 8; refine (dawake_any _).mono ?_; rintro e w1 ⟨rfl, x1⟩; have h := (St.start noB w).ext x1)
        | (go_at_call 17; refine (HP.out _ (hr.ext h.ends)).mono ?_; rintro e w2 ⟨rfl, x2⟩; have h2 := h.ext x2)
        | (go_at_call 19; refine (new_st h2 (t ++ more)).mono ?_; rintro e w3 ⟨rfl, h3⟩; have HV := Lib.hid (dread_st h3 (by omega) (by omega) (m : Int) (by omega)); rw [HT.out, HB.out] at HV; simp only [← HZ.out] at HV; unfold nlT at HV; rw [← HM.out] at HV)
        | (go_at_call 20; refine HV.out.mono ?_; rintro e w4 ⟨v, rfl, h4⟩; obtain ⟨A4, c4, rfl⟩ := h4.own.form; have HRR := HR.out _ (hr.ext h4.ends); have HQ := Lib.hid HRR; clear HRR)
        | (go_at_call 21; refine HQ.out.mono ?_; rintro e w5 ⟨rfl, x5⟩; have h5 := h4.ext x5; have HN := nsame_m h5 A4 A c4 ca l l m HM.out.symm HM.out.symm (by omega) (Own.nrow h5.own HM.out.symm) (hr.ext h5.ends) rfl; have HNN := Lib.hid HN; clear HN)
        | (go_at_call 14; refine HNN.out.mono ?_; rintro e w6 ⟨rfl, h6⟩; have HA := at_any h6.swap.rd; have HAA := Lib.hid HA; clear HA)
        | (go_at_call 22; refine HAA.out.mono ?_; rintro e w7 ⟨rfl, rfl⟩))
      go_ret
      exact ⟨rfl, h6.ends⟩
    · obtain ⟨m, hm⟩ : ∃ m, m = l.length := ⟨_, rfl⟩
      rw [← hm] at h0 ⊢
      clear hm hpa ra hr ha
      go_enter Try.func7, Try.ntmps7
      go_wp2_with (go_at_call 8; refine (dawake_any _).mono ?_; rintro e w1 ⟨rfl, x1⟩)
      go_ret
      exact ⟨rfl, Mut.trans (by assumption) x1⟩
  · obtain ⟨m, hm⟩ : ∃ m, m = l.length := ⟨_, rfl⟩
    rw [← hm] at h0 hpa ⊢
    clear hm ra hr ha
    go_enter Try.func7, Try.ntmps7
    go_wp2_with (go_at_call 8; refine (dawake_any _).mono ?_; rintro e w1 ⟨rfl, x1⟩)
    go_ret
    exact ⟨rfl, Mut.trans (by assumption) x1⟩
end Go.Proofs.Ytkjnpjkfagdegaa
