/- The walks of layer 5's functions: xor, entry, Entry. -/
import Derived.Test.YtebpcknloakjfaaRows
import Derived.Test.YtebpcknloakjfaaMut
import Derived.Test.YtebpcknloakjfaaPure
namespace Go.Proofs.Ytebpcknloakjfaa
open Go.RowKit
set_option linter.unusedVariables false

theorem xor_low (a b i : Nat) : (a ^^^ b) % 2 ^ (i + 1) = (a ^^^ b) % 2 ^ i + (if (a / 2 ^ i) % 2 = (b / 2 ^ i) % 2 then 0 else 2 ^ i) := by
  have h : (a ^^^ b) / 2 ^ i = a / 2 ^ i ^^^ b / 2 ^ i := by
    apply Nat.eq_of_testBit_eq; intro j; simp [Nat.testBit_div_two_pow]
  have h2 := xor_mod2 (a / 2 ^ i) (b / 2 ^ i)
  rw [← h] at h2
  rw [Nat.pow_succ, Nat.mod_mul, h2]
  rcases Nat.mod_two_eq_zero_or_one (a / 2 ^ i) with ha | ha <;> rcases Nat.mod_two_eq_zero_or_one (b / 2 ^ i) with hb | hb <;> simp [ha, hb]

/-- where the rounds of 'xor' stand -/
def XorAt (a b i a' b' o u : Nat) : Prop := a' = a / 2 ^ i ∧ b' = b / 2 ^ i ∧ o = (a ^^^ b) % 2 ^ i ∧ u = 2 ^ i % 4294967296
theorem XorAt.next {a b i a' b' o u : Nat} (h : XorAt a b i a' b' o u) (hi : i < 32) :
    XorAt a b (i + 1) (a' / 2) (b' / 2) (if a' % 2 = b' % 2 then o else (o + u) % 4294967296) (u * 2 % 4294967296) := by
  obtain ⟨rfl, rfl, rfl, rfl⟩ := h
  have hp : 2 ^ i * 2 ≤ 2 ^ 32 := by rw [← Nat.pow_succ]; exact Nat.pow_le_pow_right (by omega) hi
  have hpos : 0 < 2 ^ i := Nat.pow_pos (by omega)
  have hm : 2 ^ i % 4294967296 = 2 ^ i := Nat.mod_eq_of_lt (by omega)
  refine ⟨by rw [Nat.div_div_eq_div_mul, Nat.pow_succ], by rw [Nat.div_div_eq_div_mul, Nat.pow_succ], ?_, by rw [hm, Nat.pow_succ]⟩
  rw [xor_low, hm]
  have hl := Nat.mod_lt (a ^^^ b) hpos
  split
  · omega
  · rw [Nat.mod_eq_of_lt (by omega)]
theorem XorAt.last {a b a' b' o u : Nat} (h : XorAt a b 32 a' b' o u) (ha : a < 4294967296) (hb : b < 4294967296) : o = a ^^^ b := by
  obtain ⟨_, _, rfl, _⟩ := h
  exact Nat.mod_eq_of_lt (xor_lt32 ha hb)
theorem XorAt.lt {a b i a' b' o u : Nat} (h : XorAt a b i a' b' o u) (hi : i ≤ 32) (ha : a < 4294967296) (hb : b < 4294967296) : a' < 4294967296 ∧ b' < 4294967296 ∧ o < 4294967296 ∧ u < 4294967296 := by
  obtain ⟨rfl, rfl, rfl, rfl⟩ := h
  have := Nat.div_le_self a (2 ^ i)
  have := Nat.div_le_self b (2 ^ i)
  have := Nat.mod_le (a ^^^ b) (2 ^ i)
  have := xor_lt32 ha hb
  omega

theorem iv {k : IntKind} {a b : Int} (h : a = b) : Value.int k a = Value.int k b := by rw [h]
theorem ret_iv {k : IntKind} {a b : Int} (h : a = b) : Ending.returned (.int k a) = .returned (.int k b) := by rw [h]

set_option maxHeartbeats 400000 in
theorem xor_any (a b : Nat) (ha : a < 4294967296) (hb : b < 4294967296) (w : World) :
    Calls Try.prog 16 #[.int .u32 a, .int .u32 b] w fun e w' => e = .returned (.int .u32 ((a ^^^ b : Nat) : Int)) ∧ w = w' := by
  go_enter Try.func16, Try.ntmps16
  go_wp2
  go_loop [0,1,5,6,7] (fun va vb vo vu vi => ∃ i a' b' o u : Nat, i ≤ 32 ∧ va = .int .u32 a' ∧ vb = .int .u32 b' ∧ vo = .int .u32 o ∧ vu = .int .u32 u ∧ vi = .int .i64 i ∧ Hid (XorAt a b i a' b' o u)) (fun _ _ _ _ vi => 32 - (intOf vi).toNat)
  case atStart => exact ⟨0, a, b, 0, 1, by omega, rfl, rfl, rfl, rfl, rfl, Lib.hid ⟨by simp, by simp, by simp [Nat.mod_one], rfl⟩⟩
  case round =>
    obtain ⟨i, a', b', o, u, hi, rfl, rfl, rfl, rfl, rfl, H⟩ := hrel
    obtain ⟨la, lb, lo, lu⟩ := H.out.lt hi ha hb
    by_cases hlt : i < 32
    · have H2 := H.out.next hlt
      by_cases hx : a' % 2 = b' % 2
      · rw [if_pos hx] at H2
        have H3 := Lib.hid H2; clear H2
        have hd : ((a' : Int) % 2 != (b' : Int) % 2) = false := by simp; omega
        go_wp2
        all_goals go_round
        case rel => exact ⟨i + 1, _, _, _, _, by omega, iv (by omega), iv (by omega), rfl, iv (by simp [IntKind.wrap_u32]), by go_num, H3⟩
        case measure => simp [intOf]; omega
      · rw [if_neg hx] at H2
        have H3 := Lib.hid H2; clear H2
        have hd : ((a' : Int) % 2 != (b' : Int) % 2) = true := by simp; omega
        go_wp2
        all_goals go_round
        case rel => exact ⟨i + 1, _, _, _, _, by omega, iv (by omega), iv (by omega), iv (by simp [IntKind.wrap_u32]), iv (by simp [IntKind.wrap_u32]), by go_num, H3⟩
        case measure => simp [intOf]; omega
    · obtain rfl : i = 32 := by omega
      have hl := H.out.last ha hb
      go_wp2
      go_ret
      exact ⟨rfl, rfl⟩

theorem est_even' {n : Nat} (h : n % 2 = 0) : est n = n / 2 := by unfold est; rw [if_neg (by omega)]
theorem est_odd {n : Nat} (h : n % 2 = 1) : est n = (n / 2) ^^^ poly := by unfold est; rw [if_pos h]
theorem xor_poly (n : Nat) (h : n < 4294967296) : bits .xor .u32 (n : Int) 3988292384 = ((n ^^^ poly : Nat) : Int) := u32_xor_nat n 3988292384 h (by decide)
theorem xor_ones (n : Nat) (h : n < 4294967296) : bits .xor .u32 (n : Int) 4294967295 = ((n ^^^ ones : Nat) : Int) := u32_xor_nat n 4294967295 h (by decide)
theorem and_one32 (n : Nat) (h : n < 4294967296) : bits .and .u32 (n : Int) 1 = ((n % 2 : Nat) : Int) := by
  rw [show (1 : Int) = ((1 : Nat) : Int) from rfl, u32_and_nat n 1 h (by decide), nat_mask1]

def EntAt (n k m : Nat) : Prop := ent n = esti (8 - k) m
theorem EntAt.next {n k m : Nat} (h : EntAt n k m) (hk : k < 8) : EntAt n (k + 1) (est m) := by
  unfold EntAt at h ⊢
  rw [h, show 8 - k = (8 - (k + 1)) + 1 by omega]; rfl

set_option maxHeartbeats 400000 in
theorem entry_any (n : Nat) (hn : n < 4294967296) (w : World) :
    Calls Try.prog 15 #[.int .u32 n] w fun e w' => e = .returned (.int .u32 (ent n : Nat)) ∧ w = w' := by
  go_enter Try.func15, Try.ntmps15
  go_wp2
  go_loop [0, 4] (fun vn vi => ∃ i m : Nat, i ≤ 8 ∧ m < 4294967296 ∧ vn = .int .u32 m ∧ vi = .int .i64 i ∧ Hid (EntAt n i m)) (fun _ vi => 8 - (intOf vi).toNat)
  case atStart => exact ⟨0, n, by omega, hn, rfl, rfl, Lib.hid rfl⟩
  case round =>
    obtain ⟨i, m, hi, hm, rfl, rfl, H⟩ := hrel
    by_cases hlt : i < 8
    · have H2 := H.out.next hlt
      have hand := and_one32 m hm
      have hl := est_lt hm
      have e2 : (m : Int) / 2 = ((m / 2 : Nat) : Int) := by omega
      have hxp := xor_poly (m / 2) (by omega)
      rcases Nat.mod_two_eq_zero_or_one m with hx | hx
      · rw [est_even' hx] at H2 hl
        have H3 := Lib.hid H2; clear H2
        have hd : (bits .and .u32 (m : Int) 1 == 1) = false := by rw [hand, hx]; rfl
        clear hand hxp e2
        go_wp2
        all_goals go_round
        case rel => exact ⟨i + 1, _, by omega, hl, iv (by omega), by go_num, H3⟩
        case measure => simp [intOf]; omega
      · rw [est_odd hx] at H2 hl
        have H3 := Lib.hid H2; clear H2
        have hd : (bits .and .u32 (m : Int) 1 == 1) = true := by rw [hand, hx]; rfl
        have hq : bits .xor .u32 ((m : Int) / 2) 3988292384 = ((m / 2 ^^^ poly : Nat) : Int) := by rw [e2, hxp]
        clear hand hxp e2
        go_wp2
        all_goals go_round
        case rel => exact ⟨i + 1, _, by omega, hl, by first | exact iv hq | rfl, by go_num, H3⟩
        case measure => simp [intOf]; omega
    · obtain rfl : i = 8 := by omega
      have hl : ent n = m := H.out
      go_wp2
      go_ret
      exact ⟨rfl, rfl⟩

set_option maxHeartbeats 400000 in
theorem Entry_any (n : Nat) (hn : n < 4294967296) (w : World) :
    Calls Try.prog 10 #[.int .u32 n] w fun e w' => e = .returned (.int .u32 (ent n : Nat)) ∧ w = w' := by
  go_enter Try.func10, Try.ntmps10
  go_wp2
  go_loop [0, 3] (fun vn vi => ∃ i m : Nat, i ≤ 8 ∧ m < 4294967296 ∧ vn = .int .u32 m ∧ vi = .int .i64 i ∧ Hid (EntAt n i m)) (fun _ vi => 8 - (intOf vi).toNat)
  case atStart => exact ⟨0, n, by omega, hn, rfl, rfl, Lib.hid rfl⟩
  case round =>
    obtain ⟨i, m, hi, hm, rfl, rfl, H⟩ := hrel
    by_cases hlt : i < 8
    · have H2 := H.out.next hlt
      have hl := est_lt hm
      rcases Nat.mod_two_eq_zero_or_one m with hx | hx
      · rw [est_even' hx] at H2 hl
        have H3 := Lib.hid H2; clear H2
        have hd : ((m : Int) % 2 == 1) = false := by simp; omega
        go_wp2
        all_goals go_round
        case rel => exact ⟨i + 1, _, by omega, hl, iv (by omega), by go_num, H3⟩
        case measure => simp [intOf]; omega
      · rw [est_odd hx] at H2 hl
        have H3 := Lib.hid H2; clear H2
        have hd : ((m : Int) % 2 == 1) = true := by simp; omega
        go_wp2_with (go_at_call 16; rw [show (m : Int) / 2 = ((m / 2 : Nat) : Int) by omega]; refine (xor_any _ 3988292384 (by omega) (by decide) _).mono ?_; rintro e w' ⟨rfl, rfl⟩)
        all_goals go_round
        case rel => exact ⟨i + 1, _, by omega, hl, rfl, by go_num, H3⟩
        case measure => simp [intOf]; omega
    · obtain rfl : i = 8 := by omega
      have hl : ent n = m := H.out
      go_wp2
      go_ret
      exact ⟨rfl, rfl⟩
end Go.Proofs.Ytebpcknloakjfaa
