/- Layer 4's laws: the walks. -/
import Derived.Test.YtpdhfmkaeemadaaRAwake
namespace Go.Proofs.Ytpdhfmkaeemadaa
open Go.RowKit Go.WideShapes
set_option linter.unusedVariables false
set_option linter.unusedSimpArgs false
theorem ArgRow.allLt {w : World} {A : Option Addr} {len : Nat} {l : List Nat} (h : ArgRow (repU .u64 18446744073709551616) 1 w A len l) : AllLt l := fun i hi => h.small i (by rw [← h.1]; exact hi)
theorem nsame_m {S : Nat → Prop} {W w : World} {M : List Thing} (h : St S W w M) (A B : Option Addr) (ca cb : Nat) (L N : List Nat) (m : Nat) (hL : L.length = m) (hN : N.length = m) (hm : m ≤ 1000000) (ha : NRow w A L) (hb : NRow w B N) (he : L = N) :
    Calls Try.prog 14 #[.slice A m ca, .slice B m cb] w fun e w' => e = .returned (.bool true) ∧ St S W w' M := by
  subst he
  subst hL
  refine (nsame_any A B ca cb L L w ha hb (by omega) (by omega)).mono ?_
  rintro e w' ⟨rfl, x⟩
  exact ⟨by simp, h.ext x⟩
theorem pk_len_le (l : List Nat) : (pk l).length ≤ l.length := by
  have := len_le_expand (pk l) (ok_pk l)
  rwa [expand_pk] at this
theorem unI_pk (l : List Nat) (m : Nat) (hm : l.length = m) : unI (pk l) (m : Int) = (l, 0) := by
  unfold unI
  rw [if_neg (by omega), Int.toNat_natCast, un_pk l m (by omega)]
set_option maxRecDepth 20000 in
set_option maxHeartbeats 4000000 in
theorem runsPacks_walk (A : Option Addr) (ca : Nat) (l : List Nat) (w : World) (ra : ArgRow (repU .u64 18446744073709551616) 1 w A l.length l) (hpa : l.length ≤ 9223372036854775807) :
    Calls Try.prog 3 #[.slice A l.length ca] w fun e w' => e = .returned (.bool true) ∧ Ext w w' := by
  have ha := ra.allLt
  have hr := ra.nrow
  obtain ⟨m, hm⟩ : ∃ m, m = l.length := ⟨_, rfl⟩
  by_cases h0 : m ≤ 500
  · rw [← hm]
    clear hpa
    have HM := Lib.hid hm
    clear hm
    go_enter Try.func3, Try.ntmps3
    go_wp2_with (first
      | (go_at_call 9; refine (rawake_any _).mono ?_; rintro e w1 ⟨rfl, x1⟩; have h := ((St.start noB w).ext x1).made 34 1 0 0 #[] (by omega) (by unfold maxLen; omega) rfl)
      | (at_builtin; refine wpList_pushAll rfl _ _ _ rfl 34 (.int .u64 0) 1 8 Try.underlying22 u64_info rfl (by decide) h h A m ca (numsV l) rfl rfl (by rw [numsV_len]; have := HM.out; omega) (by intro e; have := hr.none e; have := HM.out; omega) (hr.ext h.ends).cells (numsV_one l) (by unfold maxLen; omega) (by omega) ?_; intro A2 c2 w2 h2 g2))
    have hmm : m ≤ 1000000 := by omega
    have HU := Lib.hid (unI_pk l m HM.out.symm)
    have HPL := Lib.hid (pk_len_le l)
    have HAR := Lib.hid (allR_pk l ha (by have := HM.out; omega))
    clear h g2
    have h3 : St noB w w2 [mlT (.slice A2 m c2) m l] := by simpa [mlT] using h2
    clear h2
    refine (pack_st h3 A2 c2 l m HM.out.symm hmm (Own.nrow h3.own HM.out.symm) ha).mono ?_
    rintro e w3 ⟨A3, n, c3, rfl, hn, h4⟩
    have HN := Lib.hid hn
    have hnm : n ≤ m := by have := HPL.out; have := HM.out; omega
    have h5 := h4.swap.drop
    clear hn h3 h4
    go_wp2_with fail
    refine (unpack_st h5 A3 c3 n (pk l) HN.out.symm (by omega) HAR.out (fun w' hh => Own.rrow hh.own HN.out.symm) m (by omega)).mono ?_
    rintro e w4 ⟨v4, rfl, h6⟩
    rw [HU.out] at h6 ⊢
    unfold nlT at h6
    simp only at h6 ⊢
    rw [← HM.out] at h6
    obtain ⟨A4, c4, rfl⟩ := h6.own.form
    clear h5
    go_wp2_with fail
    refine (rpack_st h6 A ca l m HM.out.symm hmm (hr.ext h6.ends) ha).mono ?_
    rintro e w5 ⟨A5, n5, c5, rfl, hn5, h7⟩
    obtain rfl : n5 = n := by have := HN.out; omega
    have HN5 := Lib.hid hn5.symm
    clear h6 hn5
    go_wp2_with fail
    refine (rsame_any A3 A5 c3 c5 (pk l) n5 w5 HN5.out (by omega) (Own.rrow (h7.pull 2).own HN5.out) (Own.rrow h7.own HN5.out)).mono ?_
    rintro e w6 ⟨rfl, x6⟩
    have h8 := h7.ext x6
    clear h7
    go_wp2_with fail
    refine (nsame_m h8 A4 A c4 ca l l m HM.out.symm HM.out.symm hmm (Own.nrow h8.swap.own HM.out.symm) (hr.ext h8.ends) rfl).mono ?_
    rintro e w7 ⟨rfl, h9⟩
    go_wp2_with fail
    go_ret
    exact ⟨rfl, h9.ends⟩
  · rw [← hm]
    rw [← hm] at hpa
    clear ra hr hm ha
    go_enter Try.func3, Try.ntmps3
    go_wp2_with (go_at_call 9; refine (rawake_any _).mono ?_; rintro e w1 ⟨rfl, x1⟩)
    go_ret
    exact ⟨rfl, Mut.trans (by assumption) x1⟩
end Go.Proofs.Ytpdhfmkaeemadaa
