/- Layer 21: what the streams turn in an event. -/
import Derived.Test.YtjdglpngcdcneaaGreatEFun
namespace Go.Proofs.YtjdglpngcdcneaaGreat
open Go.RowKit Go.WideShapes
set_option linter.unusedVariables false
set_option linter.unusedSimpArgs false
set_option linter.unusedSectionVars false
set_option maxHeartbeats 1000000 in
theorem turnr_any (b : Nat) (u : Value) (w : World) (hc : w.cell? ⟨b, 2, none⟩ = some u) (hf : w.frozen? ⟨b, 2, none⟩ = false) :
    Calls Tryz.prog 62 #[.pointer (some ⟨b, 0, none⟩)] w fun e w' => e = .returned (.tuple #[]) ∧ w' = w.setCell ⟨b, 2, none⟩ (.int .i64 1) := by
  go_enter Tryz.func62, Tryz.ntmps62
  go_wp2_with fail
  first | go_ret | go_end0 | skip
  exact ⟨rfl, rfl⟩
set_option maxHeartbeats 1000000 in
theorem turnt_any (b : Nat) (u : Value) (w : World) (hc : w.cell? ⟨b, 3, none⟩ = some u) (hf : w.frozen? ⟨b, 3, none⟩ = false) :
    Calls Tryz.prog 65 #[.pointer (some ⟨b, 0, none⟩)] w fun e w' => e = .returned (.tuple #[]) ∧ w' = w.setCell ⟨b, 3, none⟩ (.int .u64 1) := by
  go_enter Tryz.func65, Tryz.ntmps65
  go_wp2_with fail
  first | go_ret | go_end0 | skip
  exact ⟨rfl, rfl⟩
set_option maxHeartbeats 1000000 in
theorem turnv_any (b : Nat) (u : Value) (w : World) (hc : w.cell? ⟨b, 4, none⟩ = some u) (hf : w.frozen? ⟨b, 4, none⟩ = false) :
    Calls Tryz.prog 70 #[.pointer (some ⟨b, 0, none⟩)] w fun e w' => e = .returned (.tuple #[]) ∧ w' = w.setCell ⟨b, 4, none⟩ (.int .u64 1) := by
  go_enter Tryz.func70, Tryz.ntmps70
  go_wp2_with fail
  first | go_ret | go_end0 | skip
  exact ⟨rfl, rfl⟩
set_option maxHeartbeats 1000000 in
theorem sett_any (b o n : Nat) (u : Value) (w : World) (hc : w.cell? ⟨b, o + 3, none⟩ = some u) (hf : w.frozen? ⟨b, o + 3, none⟩ = false) :
    Calls Tryz.prog 69 #[.pointer (some ⟨b, o, none⟩), .int .u64 n] w fun e w' => e = .returned (.tuple #[]) ∧ w' = w.setCell ⟨b, o + 3, none⟩ (.int .u64 n) := by
  go_enter Tryz.func69, Tryz.ntmps69
  go_wp2_with fail
  first | go_ret | go_end0 | skip
  exact ⟨rfl, rfl⟩
set_option maxHeartbeats 1000000 in
theorem setv_any (b o n : Nat) (u : Value) (w : World) (hc : w.cell? ⟨b, o + 4, none⟩ = some u) (hf : w.frozen? ⟨b, o + 4, none⟩ = false) :
    Calls Tryz.prog 72 #[.pointer (some ⟨b, o, none⟩), .int .u64 n] w fun e w' => e = .returned (.tuple #[]) ∧ w' = w.setCell ⟨b, o + 4, none⟩ (.int .u64 n) := by
  go_enter Tryz.func72, Tryz.ntmps72
  go_wp2_with fail
  first | go_ret | go_end0 | skip
  exact ⟨rfl, rfl⟩
set_option maxHeartbeats 1000000 in
theorem setk_any (b o n : Nat) (u : Value) (w : World) (hn : n < 18446744073709551616) (hc : w.cell? ⟨b, o + 1, none⟩ = some u) (hf : w.frozen? ⟨b, o + 1, none⟩ = false) :
    Calls Tryz.prog 60 #[.pointer (some ⟨b, o, none⟩), .int .u64 n] w fun e w' => e = .returned (.tuple #[]) ∧ w' = w.setCell ⟨b, o + 1, none⟩ (.int .i64 (smallN n : Nat)) := by
  have HS := Lib.hid (small_any n hn w)
  generalize smallN n = q at HS ⊢
  go_enter Tryz.func60, Tryz.ntmps60
  go_wp2_with fail
  refine HS.out.mono ?_
  rintro _ _ ⟨rfl, rfl⟩
  go_wp2_with fail
  first | go_ret | go_end0 | skip
  exact ⟨rfl, rfl⟩
set_option maxHeartbeats 1000000 in
theorem setr_any (b o n : Nat) (u : Value) (w : World) (hn : n < 18446744073709551616) (hc : w.cell? ⟨b, o + 2, none⟩ = some u) (hf : w.frozen? ⟨b, o + 2, none⟩ = false) :
    Calls Tryz.prog 64 #[.pointer (some ⟨b, o, none⟩), .int .u64 n] w fun e w' => e = .returned (.tuple #[]) ∧ w' = w.setCell ⟨b, o + 2, none⟩ (.int .i64 (smallN n : Nat)) := by
  have HS := Lib.hid (small_any n hn w)
  generalize smallN n = q at HS ⊢
  go_enter Tryz.func64, Tryz.ntmps64
  go_wp2_with fail
  refine HS.out.mono ?_
  rintro _ _ ⟨rfl, rfl⟩
  go_wp2_with fail
  first | go_ret | go_end0 | skip
  exact ⟨rfl, rfl⟩
end Go.Proofs.YtjdglpngcdcneaaGreat
