/- Layer 21: what the streams get of an event. -/
import Derived.Test.YtjdglpngcdcneaaGreatEOf
namespace Go.Proofs.YtjdglpngcdcneaaGreat
open Go.RowKit Go.WideShapes
set_option linter.unusedVariables false
set_option linter.unusedSimpArgs false
set_option linter.unusedSectionVars false
def smallN (n : Nat) : Nat := if n < 1024 then n else 1024
set_option maxHeartbeats 1000000 in
theorem small_any (n : Nat) (hn : n < 18446744073709551616) (w : World) : Calls Tryz.prog 54 #[.int .u64 n] w fun e w' => e = .returned (.int .i64 (smallN n : Nat)) ∧ w = w' := by
  by_cases h : n < 1024
  · have e : smallN n = n := by unfold smallN; rw [if_pos h]
    rw [e]
    have h1 : (n : Int) < 1024 := by omega
    have h2 : ¬ (1024 : Int) < (n : Int) := by omega
    have hm : min (n : Int) 1024 = (n : Int) := by omega
    have hw : IntKind.i64.wrap (n : Int) = (n : Int) := by rw [IntKind.wrap_i64]; omega
    clear e
    go_enter Tryz.func54, Tryz.ntmps54
    go_wp2
    go_ret
    exact ⟨rfl, rfl⟩
  · have e : smallN n = 1024 := by unfold smallN; rw [if_neg h]
    rw [e]
    by_cases h9 : n = 1024
    · subst h9
      clear e
      go_enter Tryz.func54, Tryz.ntmps54
      go_wp2
      go_ret
      exact ⟨rfl, rfl⟩
    · have h1 : ¬ (n : Int) < 1024 := by omega
      have h3 : ¬ (n : Int) ≤ 1024 := by omega
      have h2 : (1024 : Int) < (n : Int) := by omega
      clear e
      go_enter Tryz.func54, Tryz.ntmps54
      go_wp2
      go_ret
      exact ⟨rfl, rfl⟩
theorem has0_any (k : Int) (w : World) : Calls Tryz.prog 58 #[.int .i64 k] w fun e w' => e = .returned (.bool true) ∧ w = w' := by
  go_enter Tryz.func58, Tryz.ntmps58
  go_wp2
  go_ret
  exact ⟨rfl, rfl⟩
set_option maxHeartbeats 1000000 in
theorem getk_any (e : Ev) (n : Nat) (he : e.kd = n) (hn : n < 9223372036854775808) (w : World) : Calls Tryz.prog 59 #[evV e] w fun r w' => r = .returned (.int .u64 n) ∧ Ext w w' := by
  obtain ⟨th, kd, rg, tk, vl⟩ := e
  dsimp only at he
  subst he
  unfold evV
  have hw : IntKind.u64.wrap (n : Int) = (n : Int) := by rw [IntKind.wrap_u64]; omega
  have h := (St.start noB w).alloc (evA th n rg tk vl) 36
  have k1 : _ = some (Value.int .i64 ((n : Nat) : Int)) := cell_of_heap h.blk 1
  dsimp only [evA] at h k1
  go_enter Tryz.func59, Tryz.ntmps59
  go_wp2_with fail
  go_ret
  exact ⟨rfl, h.ends⟩
set_option maxHeartbeats 1000000 in
theorem getr_any (e : Ev) (n : Nat) (he : e.rg = n) (hn : n < 9223372036854775808) (w : World) : Calls Tryz.prog 63 #[evV e] w fun r w' => r = .returned (.int .u64 n) ∧ Ext w w' := by
  obtain ⟨th, kd, rg, tk, vl⟩ := e
  dsimp only at he
  subst he
  unfold evV
  have hw : IntKind.u64.wrap (n : Int) = (n : Int) := by rw [IntKind.wrap_u64]; omega
  have h := (St.start noB w).alloc (evA th kd n tk vl) 36
  have k1 : _ = some (Value.int .i64 ((n : Nat) : Int)) := cell_of_heap h.blk 2
  dsimp only [evA] at h k1
  go_enter Tryz.func63, Tryz.ntmps63
  go_wp2_with fail
  go_ret
  exact ⟨rfl, h.ends⟩
set_option maxHeartbeats 1000000 in
theorem gett_any (e : Ev) (w : World) : Calls Tryz.prog 68 #[evV e] w fun r w' => r = .returned (.int .u64 e.tk) ∧ Ext w w' := by
  obtain ⟨th, kd, rg, tk, vl⟩ := e
  unfold evV
  have h := (St.start noB w).alloc (evA th kd rg tk vl) 36
  have k1 : _ = some (Value.int .u64 ((tk : Nat) : Int)) := cell_of_heap h.blk 3
  dsimp only [evA] at h k1
  go_enter Tryz.func68, Tryz.ntmps68
  go_wp2_with fail
  go_ret
  exact ⟨rfl, h.ends⟩
set_option maxHeartbeats 1000000 in
theorem getv_any (e : Ev) (w : World) : Calls Tryz.prog 71 #[evV e] w fun r w' => r = .returned (.int .u64 e.vl) ∧ Ext w w' := by
  obtain ⟨th, kd, rg, tk, vl⟩ := e
  unfold evV
  have h := (St.start noB w).alloc (evA th kd rg tk vl) 36
  have k1 : _ = some (Value.int .u64 ((vl : Nat) : Int)) := cell_of_heap h.blk 4
  dsimp only [evA] at h k1
  go_enter Tryz.func71, Tryz.ntmps71
  go_wp2_with fail
  go_ret
  exact ⟨rfl, h.ends⟩
end Go.Proofs.YtjdglpngcdcneaaGreat
