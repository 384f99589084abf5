/- Layer 7: two trees compared. -/
import Derived.Test.YtclhmlgbhlmekaaHa
import Derived.Test.YtclhmlgbhlmekaaHHeap
import Derived.OrdersHeld
namespace Go.Proofs.Ytclhmlgbhlmekaa
open Go.RowKit
set_option linter.unusedVariables false
set_option linter.unusedSimpArgs false
def cmpN (x y : Nat) : Int := if x < y then -1 else if y < x then 1 else 0
def orI (a b : Int) : Int := if a = 0 then b else a
theorem orI_lt (a b : WN) : decide (orI (cmpN a.1 b.1) (cmpN a.2 b.2) < 0) = wlt a b := by
  unfold orI cmpN wlt
  by_cases h1 : a.1 < b.1
  · rw [if_pos h1, if_neg (by omega), decide_eq_true h1]; rfl
  · rw [if_neg h1, decide_eq_false h1]
    by_cases h2 : b.1 < a.1
    · rw [if_pos h2, if_neg (by omega), decide_eq_false (show ¬ a.1 = b.1 by omega)]; rfl
    · rw [if_neg h2, if_pos rfl, decide_eq_true (show a.1 = b.1 by omega)]
      by_cases h3 : a.2 < b.2
      · rw [if_pos h3, decide_eq_true h3]; rfl
      · rw [if_neg h3, decide_eq_false h3]
        by_cases h4 : b.2 < a.2
        · rw [if_pos h4]; rfl
        · rw [if_neg h4]; rfl
theorem nanu (x : Int) (w : World) : Calls Try.prog 84 #[.int .u64 x] w fun e w' => e = .returned (.bool false) ∧ w = w' := by
  go_enter Try.func84, Try.ntmps84
  go_wp2
  go_ret
  exact ⟨by simp, rfl⟩
theorem nani (x : Int) (w : World) : Calls Try.prog 85 #[.int .i64 x] w fun e w' => e = .returned (.bool false) ∧ w = w' := by
  go_enter Try.func85, Try.ntmps85
  go_wp2
  go_ret
  exact ⟨by simp, rfl⟩
set_option maxRecDepth 20000 in
theorem cmpu_any (x y : Nat) (w : World) : Calls Try.prog 82 #[.int .u64 x, .int .u64 y] w fun e w' => e = .returned (.int .i64 (cmpN x y)) ∧ w = w' := by
  unfold cmpN
  by_cases h1 : x < y
  · have h2 : (x : Int) < (y : Int) := by omega
    rw [if_pos h1]
    clear h1
    go_enter Try.func82, Try.ntmps82
    go_wp2_with fail
    refine (nanu _ _).mono ?_
    rintro e w1 ⟨rfl, rfl⟩
    go_wp2_with fail
    refine (nanu _ _).mono ?_
    rintro e w1 ⟨rfl, rfl⟩
    go_wp2_with fail
    go_ret
    exact ⟨rfl, rfl⟩
  · have h2 : ¬ (x : Int) < (y : Int) := by omega
    rw [if_neg h1]
    clear h1
    by_cases h3 : y < x
    · have h4 : (y : Int) < (x : Int) := by omega
      rw [if_pos h3]
      clear h3
      go_enter Try.func82, Try.ntmps82
      go_wp2_with fail
      refine (nanu _ _).mono ?_
      rintro e w1 ⟨rfl, rfl⟩
      go_wp2_with fail
      refine (nanu _ _).mono ?_
      rintro e w1 ⟨rfl, rfl⟩
      go_wp2_with fail
      go_ret
      exact ⟨rfl, rfl⟩
    · have h4 : ¬ (y : Int) < (x : Int) := by omega
      rw [if_neg h3]
      clear h3
      go_enter Try.func82, Try.ntmps82
      go_wp2_with fail
      refine (nanu _ _).mono ?_
      rintro e w1 ⟨rfl, rfl⟩
      go_wp2_with fail
      refine (nanu _ _).mono ?_
      rintro e w1 ⟨rfl, rfl⟩
      go_wp2_with fail
      go_ret
      exact ⟨rfl, rfl⟩
set_option maxRecDepth 20000 in
theorem cmpi_any (x y : Nat) (w : World) : Calls Try.prog 83 #[.int .i64 x, .int .i64 y] w fun e w' => e = .returned (.int .i64 (cmpN x y)) ∧ w = w' := by
  unfold cmpN
  by_cases h1 : x < y
  · have h2 : (x : Int) < (y : Int) := by omega
    rw [if_pos h1]
    clear h1
    go_enter Try.func83, Try.ntmps83
    go_wp2_with fail
    refine (nani _ _).mono ?_
    rintro e w1 ⟨rfl, rfl⟩
    go_wp2_with fail
    refine (nani _ _).mono ?_
    rintro e w1 ⟨rfl, rfl⟩
    go_wp2_with fail
    go_ret
    exact ⟨rfl, rfl⟩
  · have h2 : ¬ (x : Int) < (y : Int) := by omega
    rw [if_neg h1]
    clear h1
    by_cases h3 : y < x
    · have h4 : (y : Int) < (x : Int) := by omega
      rw [if_pos h3]
      clear h3
      go_enter Try.func83, Try.ntmps83
      go_wp2_with fail
      refine (nani _ _).mono ?_
      rintro e w1 ⟨rfl, rfl⟩
      go_wp2_with fail
      refine (nani _ _).mono ?_
      rintro e w1 ⟨rfl, rfl⟩
      go_wp2_with fail
      go_ret
      exact ⟨rfl, rfl⟩
    · have h4 : ¬ (y : Int) < (x : Int) := by omega
      rw [if_neg h3]
      clear h3
      go_enter Try.func83, Try.ntmps83
      go_wp2_with fail
      refine (nani _ _).mono ?_
      rintro e w1 ⟨rfl, rfl⟩
      go_wp2_with fail
      refine (nani _ _).mono ?_
      rintro e w1 ⟨rfl, rfl⟩
      go_wp2_with fail
      go_ret
      exact ⟨rfl, rfl⟩
set_option maxRecDepth 20000 in
theorem or_any (a b : Int) (g : Nat) (w : World) (h0 : w.cell? ⟨g, 0, none⟩ = some (.int .i64 a)) (h1 : w.cell? ⟨g, 1, none⟩ = some (.int .i64 b)) :
    Calls Try.prog 81 #[.slice (some ⟨g, 0, none⟩) 2 2] w fun e w' => e = .returned (.int .i64 (orI a b)) ∧ w = w' := by
  obtain ⟨r, hr⟩ : ∃ r, r = orI a b := ⟨_, rfl⟩
  rw [← hr]
  have HR := Lib.hid hr
  clear hr
  go_enter Try.func81, Try.ntmps81
  go_wp2_with fail
  go_loop [8] (fun v8 => ∃ k : Nat, v8 = .int .i64 k ∧ k ≤ 2 ∧ (1 ≤ k → a = 0) ∧ (2 ≤ k → b = 0)) (fun v8 => 2 - (intOf v8).toNat)
  case atStart => exact ⟨0, rfl, by omega, by omega, by omega⟩
  case round =>
    obtain ⟨k, rfl, hk, ha, hb⟩ := hrel
    have hR := HR.out
    unfold orI at hR
    rcases (show k = 0 ∨ k = 1 ∨ k = 2 by omega) with rfl | rfl | rfl
    · clear ha hb
      by_cases ha : a = 0
      · have hn : (a != 0) = false := by simp [ha]
        clear hR
        go_wp2_with fail
        go_round
        all_goals first | exact ⟨1, rfl, by omega, fun _ => ha, by omega⟩ | (simp [intOf]; done) | (simp [intOf]; omega)
      · have hn : (a != 0) = true := by simp [ha]
        rw [if_neg ha] at hR
        have HR2 := Lib.hid hR
        clear hR ha
        go_wp2_with fail
        go_ret
        rw [HR2.out]
        exact ⟨rfl, rfl⟩
    · have ha0 := ha (by omega)
      rw [if_pos ha0] at hR
      clear ha hb
      by_cases hb : b = 0
      · have hn : (b != 0) = false := by simp [hb]
        clear hR
        go_wp2_with fail
        go_round
        all_goals first | exact ⟨2, rfl, by omega, fun _ => ha0, fun _ => hb⟩ | (simp [intOf]; done) | (simp [intOf]; omega)
      · have hn : (b != 0) = true := by simp [hb]
        have HR2 := Lib.hid hR
        clear hR hb ha0
        go_wp2_with fail
        go_ret
        rw [HR2.out]
        exact ⟨rfl, rfl⟩
    · have ha0 := ha (by omega)
      have hb0 := hb (by omega)
      rw [if_pos ha0, hb0] at hR
      have HR2 := Lib.hid hR
      clear hR ha hb ha0 hb0
      go_wp2_with fail
      go_ret
      rw [HR2.out]
      exact ⟨rfl, rfl⟩
end Go.Proofs.Ytclhmlgbhlmekaa
