/- Layer 21: the document's events: which may be. -/
import Derived.Test.YtjdglpngcdcneaaGreatECheck
namespace Go.Proofs.YtjdglpngcdcneaaGreat
open Go.RowKit Go.WideShapes
set_option linter.unusedVariables false
set_option linter.unusedSimpArgs false
set_option linter.unusedSectionVars false
def namesE (k : Int) : ByteArray := if tickB k then ⟨#[82, 84]⟩ else if 5 ≤ k ∧ k ≤ 7 then ⟨#[82]⟩ else if valB k then ⟨#[86]⟩ else ⟨#[]⟩
section
variable (w : World)
set_option maxHeartbeats 4000000 in
theorem rname_any (k : Int) : Calls Tryz.prog 30 #[.int .i64 k] w fun e w' => e = .returned (.string (nameE k)) ∧ Ext w w' := by
  by_cases h1 : k < 1
  · have e : nameE k = ⟨#[]⟩ := by unfold nameE; rw [if_neg (by omega)]
    rw [e]
    clear e
    go_enter Tryz.func30, Tryz.ntmps30
    go_wp2
    go_ret
    exact ⟨rfl, ((St.start noB w).alloc _ _).ends⟩
  · by_cases h2 : 15 < k
    · have e : nameE k = ⟨#[]⟩ := by unfold nameE; rw [if_neg (by omega)]
      rw [e]
      clear e
      go_enter Tryz.func30, Tryz.ntmps30
      go_wp2
      go_ret
      exact ⟨rfl, ((St.start noB w).alloc _ _).ends⟩
    · obtain ⟨m, rfl⟩ : ∃ m : Nat, k = m + 1 := ⟨(k - 1).toNat, by omega⟩
      have e : nameE ((m : Int) + 1) = nmB m := by unfold nameE; rw [if_pos (by omega)]; congr 1; omega
      rw [e]
      clear e
      have h5 : m < 15 := by omega
      clear h1 h2
      match m, h5 with
      | 0, _ | 1, _ | 2, _ | 3, _ | 4, _ | 5, _ | 6, _ | 7, _ | 8, _ | 9, _ | 10, _ | 11, _ | 12, _ | 13, _ | 14, _ =>
        go_enter Tryz.func30, Tryz.ntmps30
        go_wp2
        go_ret
        exact ⟨rfl, ((St.start noB w).alloc _ _).ends⟩
set_option maxHeartbeats 4000000 in
theorem rnames_any (k : Int) : Calls Tryz.prog 29 #[.int .i64 k] w fun e w' => e = .returned (.string (namesE k)) ∧ w = w' := by
  by_cases h : 1 ≤ k ∧ k ≤ 13 ∧ k ≠ 11
  · obtain ⟨m, rfl⟩ : ∃ m : Nat, k = m := ⟨k.toNat, by omega⟩
    have h5 : m < 14 := by omega
    match m, h5, h with
    | 0, _, h => omega
    | 11, _, h => exact absurd rfl h.2.2
    | 1, _, _ | 2, _, _ | 3, _, _ | 4, _, _ | 5, _, _ | 6, _, _ | 7, _, _ | 8, _, _ | 9, _, _ | 10, _, _ | 12, _, _ | 13, _, _ =>
      go_enter Tryz.func29, Tryz.ntmps29
      go_wp2
      go_ret
      exact ⟨rfl, rfl⟩
  · have e : namesE k = ⟨#[]⟩ := by
      unfold namesE tickB valB
      rw [if_neg (by rw [decide_eq_true_eq]; omega), if_neg (by omega), if_neg (by rw [decide_eq_true_eq]; omega)]
    rw [e]
    have b1 : (k == 1) = false := by rw [beq_eq_false_iff_ne]; omega
    have b2 : (k == 2) = false := by rw [beq_eq_false_iff_ne]; omega
    have b3 : (k == 3) = false := by rw [beq_eq_false_iff_ne]; omega
    have b4 : (k == 4) = false := by rw [beq_eq_false_iff_ne]; omega
    have b5 : (k == 5) = false := by rw [beq_eq_false_iff_ne]; omega
    have b6 : (k == 6) = false := by rw [beq_eq_false_iff_ne]; omega
    have b7 : (k == 7) = false := by rw [beq_eq_false_iff_ne]; omega
    have b8 : (k == 8) = false := by rw [beq_eq_false_iff_ne]; omega
    have b9 : (k == 9) = false := by rw [beq_eq_false_iff_ne]; omega
    have b10 : (k == 10) = false := by rw [beq_eq_false_iff_ne]; omega
    have b12 : (k == 12) = false := by rw [beq_eq_false_iff_ne]; omega
    have b13 : (k == 13) = false := by rw [beq_eq_false_iff_ne]; omega
    go_enter Tryz.func29, Tryz.ntmps29
    go_wp2
    go_ret
    exact ⟨rfl, rfl⟩
end
end Go.Proofs.YtjdglpngcdcneaaGreat
