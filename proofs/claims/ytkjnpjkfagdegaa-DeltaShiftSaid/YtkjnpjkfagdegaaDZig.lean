/- Layer 3: a number with a sign, without one. -/
import Derived.Test.YtkjnpjkfagdegaaDPure
import Derived.Test.YtkjnpjkfagdegaaVList
namespace Go.Proofs.Ytkjnpjkfagdegaa
open Go.RowKit
set_option linter.unusedVariables false
set_option linter.unusedSimpArgs false
def zigI (n : Int) : Nat := if 0 ≤ n then (2 * n).toNat else (-2 * n - 1).toNat
def zagI (u : Nat) : Int := if u % 2 = 0 then ((u / 2 : Nat) : Int) else -((u / 2 : Nat) : Int) - 1
theorem zigI_lt (n : Int) (h : -9223372036854775808 ≤ n ∧ n < 9223372036854775808) : zigI n < 18446744073709551616 := by unfold zigI; split <;> omega
theorem zagI_lt (u : Nat) (h : u < 18446744073709551616) : -9223372036854775808 ≤ zagI u ∧ zagI u < 9223372036854775808 := by unfold zagI; split <;> omega
theorem zag_zig (n : Int) : zagI (zigI n) = n := by unfold zagI zigI; split <;> split <;> omega
theorem zig_zag (u : Nat) : zigI (zagI u) = u := by unfold zagI zigI; split <;> split <;> omega
theorem dl_zig (last n : Nat) (h : last < 18446744073709551616) (x : Int) (hx : x = if (n + 18446744073709551616 - last) % 18446744073709551616 < 9223372036854775808 then (((n + 18446744073709551616 - last) % 18446744073709551616 : Nat) : Int) else (((n + 18446744073709551616 - last) % 18446744073709551616 : Nat) : Int) - 18446744073709551616) : zigI x = dl last n := by
  subst hx; unfold zigI dl
  split <;> split <;> omega
theorem xor_ones (x : Nat) (h : x < 2 ^ 64) : x ^^^ (2 ^ 64 - 1) = 2 ^ 64 - (x + 1) := by
  apply Nat.eq_of_testBit_eq
  intro i
  rw [Nat.testBit_xor, Nat.testBit_two_pow_sub_one, Nat.testBit_two_pow_sub_succ h]
  by_cases hi : i < 64
  · simp [hi]
  · simp [hi]
    exact Nat.testBit_lt_two_pow (Nat.lt_of_lt_of_le h (Nat.pow_le_pow_right (by omega) (by omega)))
theorem zig_eq (n : Int) (hn : -9223372036854775808 ≤ n ∧ n < 9223372036854775808) :
    bits BinOp.xor IntKind.u64 (IntKind.u64.wrap (wrap64 (n * 2))) (IntKind.u64.wrap (n / 9223372036854775808)) = (zigI n : Nat) := by
  have e1 : IntKind.u64.wrap (wrap64 (n * 2)) = (n * 2) % 18446744073709551616 := by
    rw [IntKind.wrap_u64]; unfold wrap64; omega
  rw [e1, IntKind.wrap_u64]
  by_cases h0 : 0 ≤ n
  · obtain ⟨k, rfl⟩ : ∃ k : Nat, n = k := ⟨n.toNat, by omega⟩
    have e2 : (k : Int) / 9223372036854775808 % 18446744073709551616 = ((0 : Nat) : Int) := by omega
    have e3 : (k : Int) * 2 % 18446744073709551616 = ((2 * k : Nat) : Int) := by omega
    rw [e2, e3, u64_xor_nat _ _ (by omega) (by omega), Nat.xor_zero]
    unfold zigI
    rw [if_pos h0]; omega
  · have e2 : n / 9223372036854775808 % 18446744073709551616 = ((2 ^ 64 - 1 : Nat) : Int) := by omega
    obtain ⟨x, hx⟩ : ∃ x : Nat, (x : Int) = n * 2 % 18446744073709551616 := ⟨(n * 2 % 18446744073709551616).toNat, by omega⟩
    rw [e2, ← hx, u64_xor_nat _ _ (by omega) (by omega), xor_ones x (by omega)]
    unfold zigI
    rw [if_neg h0]; omega
theorem xor0_i64 (a : Nat) (h : a < 9223372036854775808) : bits BinOp.xor IntKind.i64 (a : Int) 0 = a := by
  show IntKind.i64.wrap ((BitVec.ofInt 64 (a : Int) ^^^ BitVec.ofInt 64 0).toNat : Int) = _
  have e : BitVec.ofInt 64 (a : Int) ^^^ BitVec.ofInt 64 0 = BitVec.ofNat 64 a := by simp
  rw [e, BitVec.toNat_ofNat, Nat.mod_eq_of_lt (by omega)]
  rw [IntKind.wrap_i64]; omega
theorem xor1_i64 (a : Nat) (h : a < 9223372036854775808) : bits BinOp.xor IntKind.i64 (a : Int) (-1) = -(a : Int) - 1 := by
  show IntKind.i64.wrap ((BitVec.ofInt 64 (a : Int) ^^^ BitVec.ofInt 64 (-1)).toNat : Int) = _
  have e : BitVec.ofInt 64 (-1) = BitVec.ofNat 64 (2 ^ 64 - 1) := by decide
  rw [e, BitVec.ofInt_natCast, BitVec.toNat_xor, BitVec.toNat_ofNat, BitVec.toNat_ofNat, Nat.mod_eq_of_lt (by omega), Nat.mod_eq_of_lt (by omega), xor_ones a (by omega)]
  rw [IntKind.wrap_i64]; omega
theorem zag_eq (u : Nat) (hu : u < 18446744073709551616) :
    bits BinOp.xor IntKind.i64 ((u : Int) / 2) (wrap64 (-wrap64 (bits BinOp.and IntKind.u64 (u : Int) 1))) = zagI u := by
  have e1 : bits BinOp.and IntKind.u64 (u : Int) 1 = ((u % 2 : Nat) : Int) := by
    rw [show (1 : Int) = ((1 : Nat) : Int) from rfl, u64_and_nat u 1 hu (by omega), Nat.and_one_is_mod]
  have e2 : (u : Int) / 2 = ((u / 2 : Nat) : Int) := by omega
  rw [e1, e2]
  unfold zagI
  by_cases h : u % 2 = 0
  · rw [h, if_pos rfl, show wrap64 (-wrap64 ((0 : Nat) : Int)) = 0 from by unfold wrap64; omega, xor0_i64 _ (by omega)]
  · rw [show u % 2 = 1 by omega, if_neg (by omega), show wrap64 (-wrap64 ((1 : Nat) : Int)) = -1 from by unfold wrap64; omega, xor1_i64 _ (by omega)]
set_option maxHeartbeats 1000000 in
theorem zig_any (n : Int) (hn : -9223372036854775808 ≤ n ∧ n < 9223372036854775808) (w : World) :
    Calls Try.prog 9 #[.int .i64 n] w fun e w' => e = .returned (.int .u64 (zigI n : Nat)) ∧ w = w' := by
  go_enter Try.func9, Try.ntmps9
  go_wp2
  go_ret
  refine ⟨?_, rfl⟩
  rw [← zig_eq n hn]; rfl
set_option maxHeartbeats 1000000 in
theorem zag_any (u : Nat) (hu : u < 18446744073709551616) (w : World) :
    Calls Try.prog 11 #[.int .u64 u] w fun e w' => e = .returned (.int .i64 (zagI u)) ∧ w = w' := by
  go_enter Try.func11, Try.ntmps11
  go_wp2
  go_ret
  refine ⟨?_, rfl⟩
  rw [← zag_eq u hu]; rfl
set_option maxHeartbeats 1000000 in
theorem rzig_any (n : Int) (hn : -9223372036854775808 ≤ n ∧ n < 9223372036854775808) (w : World) :
    Calls Try.prog 10 #[.int .i64 n] w fun e w' => e = .returned (.int .u64 (zigI n : Nat)) ∧ w = w' := by
  by_cases h0 : 0 ≤ n
  · have e : ((zigI n : Nat) : Int) = 2 * n := by unfold zigI; rw [if_pos h0]; omega
    rw [e]
    clear e
    go_enter Try.func10, Try.ntmps10
    go_wp2
    go_ret
    exact ⟨rfl, rfl⟩
  · have e : ((zigI n : Nat) : Int) = 2 * -(n + 1) + 1 := by unfold zigI; rw [if_neg h0]; omega
    rw [e]
    clear e
    go_enter Try.func10, Try.ntmps10
    go_wp2
    go_ret
    exact ⟨rfl, rfl⟩
end Go.Proofs.Ytkjnpjkfagdegaa
