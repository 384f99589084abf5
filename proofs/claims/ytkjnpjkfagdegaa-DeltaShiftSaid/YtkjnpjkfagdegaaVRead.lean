/- Layer 2: a number, read. -/
import Derived.Test.YtkjnpjkfagdegaaVPrint
import Derived.Test.YtkjnpjkfagdegaaOct
import Derived.Test.YtkjnpjkfagdegaaRd
namespace Go.Proofs.Ytkjnpjkfagdegaa
open Go.RowKit
set_option linter.unusedVariables false
set_option linter.unusedSimpArgs false
theorem and_127 (x : Nat) (hx : x < 256) : bits .and .u8 (x : Int) 127 = ((x % 128 : Nat) : Int) := by
  obtain ⟨m, rfl⟩ : ∃ k : Fin 256, x = k.val := ⟨⟨x, hx⟩, rfl⟩
  revert m; decide +kernel
theorem or_group (k n x p : Nat) (hp : p = 128 ^ k) (hk : k ≤ 9) (hn : n < 128 ^ k) (hx : x < 256) (h9 : k = 9 → x ≤ 1) :
    bits .or .u64 (n : Int) (IntKind.u64.wrap (IntKind.u64.wrap (bits .and .u8 (x : Int) 127) * (p : Int))) = ((n + x % 128 * 128 ^ k : Nat) : Int) := by
  subst hp
  have hle : n + x % 128 * 128 ^ k < 18446744073709551616 := by
    rcases Nat.lt_or_ge k 9 with h | h
    · have e1 : (128 : Nat) ^ (k + 1) ≤ 128 ^ 9 := Nat.pow_le_pow_right (by omega) (by omega)
      have : x % 128 * 128 ^ k ≤ 127 * 128 ^ k := Nat.mul_le_mul_right _ (by omega)
      rw [Nat.pow_succ, pow128_9] at e1
      omega
    · obtain rfl : k = 9 := by omega
      have : x % 128 * 128 ^ 9 ≤ 1 * 128 ^ 9 := Nat.mul_le_mul_right _ (by have := h9 rfl; omega)
      rw [pow128_9] at this hn ⊢
      omega
  have e1 : IntKind.u64.wrap ((x % 128 : Nat) : Int) = ((x % 128 : Nat) : Int) := by rw [IntKind.wrap_u64, Int.emod_eq_of_lt (by omega) (by omega)]
  rw [and_127 x hx, e1, ← Int.natCast_mul, IntKind.wrap_u64]
  have e : (128 : Nat) ^ k = 2 ^ (7 * k) := by rw [show (128 : Nat) = 2 ^ 7 from rfl, ← Nat.pow_mul]
  rw [e] at hn
  have hy : x % 128 * 128 ^ k % 2 ^ (7 * k) = 0 := by rw [e]; exact Nat.mul_mod_left _ _
  generalize x % 128 * 128 ^ k = y at hle hy ⊢
  rw [Int.emod_eq_of_lt (by omega) (by omega), u64_or_nat _ _ (by omega) (by omega)]
  congr 1
  exact or_nat _ _ (7 * k) hn hy
theorem vgo_step (l : List UInt8) (a k n x : Nat) (hk : k ≤ 9) (hlt : a + k < l.length) (hx : (l.getD (a + k) 0).toNat = x) (hbad : ¬ (0 < k ∧ x = 0 ∨ k = 9 ∧ 1 < x)) :
    vgo l a (10 - k) k n = if x < 128 then (n + x % 128 * 128 ^ k, 0, a + k + 1) else vgo l a (10 - (k + 1)) (k + 1) (n + x % 128 * 128 ^ k) := by
  have h8 := UInt8.toNat_lt (l.getD (a + k) 0)
  obtain ⟨f, hf⟩ : ∃ f, 10 - k = f + 1 := ⟨9 - k, by omega⟩
  rw [hf, vgo, if_neg (by omega), hx, if_neg hbad, show 10 - (k + 1) = f by omega]
  split
  · rw [Nat.mod_eq_of_lt (by assumption)]
  · rw [show x % 128 = x - 128 by omega]
theorem vgo_bad (l : List UInt8) (a k n x : Nat) (hk : k ≤ 9) (hlt : a + k < l.length) (hx : (l.getD (a + k) 0).toNat = x) (hbad : 0 < k ∧ x = 0 ∨ k = 9 ∧ 1 < x) :
    vgo l a (10 - k) k n = (0, 3, a + k + 1) := by
  obtain ⟨f, hf⟩ : ∃ f, 10 - k = f + 1 := ⟨9 - k, by omega⟩
  rw [hf, vgo, if_neg (by omega), hx, if_pos hbad]
theorem vgo_end (l : List UInt8) (a k n : Nat) (hk : k ≤ 9) (hlt : a + k = l.length) : vgo l a (10 - k) k n = (0, 2, l.length) := by
  obtain ⟨f, hf⟩ : ∃ f, 10 - k = f + 1 := ⟨9 - k, by omega⟩
  rw [hf, vgo, if_pos (by omega)]
set_option maxRecDepth 20000 in
set_option maxHeartbeats 2000000 in
theorem vread_st {S : Nat → Prop} {W w : World} {M : List Thing} {b : Nat} {s : ByteArray} {a : Nat} (h : St S W w (rdT b s a :: M)) (hs : s.size ≤ 140737488351232) (ha : a ≤ s.size) :
    Calls Try.prog 29 #[.pointer (some ⟨b, 0, none⟩)] w fun e w' => e = .returned (.tuple #[.int .u64 (vrd s.data.toList a).1, .int .i64 (vrd s.data.toList a).2.1]) ∧ St S W w' (rdT b s (vrd s.data.toList a).2.2 :: M) := by
  go_enter Try.func29, Try.ntmps29
  go_wp2_with fail
  go_loopw [2, 7] (fun vn vk wr => ∃ (n k : Nat), vn = .int .u64 n ∧ vk = .int .i64 k ∧ k ≤ 9 ∧ n < 128 ^ k ∧ a + k ≤ s.size ∧ Hid (vgo s.data.toList a (10 - k) k n = vrd s.data.toList a) ∧ St S W wr (rdT b s (a + k) :: M)) (fun _ vk _ => 10 - (intOf vk).toNat)
  case atStart => exact ⟨0, 0, rfl, rfl, by omega, by simp, by omega, Lib.hid rfl, h⟩
  case round =>
    clear h
    obtain ⟨n, k, rfl, rfl, hk, hn, hak, HE, h⟩ := hrel
    by_cases hlt : a + k < s.size
    · have HB := Lib.hid (byte_st h (by unfold maxLen; omega) hlt)
      have hgd : (s.data.toList.getD (a + k) 0) = s[a + k] := by
        rw [List.getD_eq_getElem?_getD, List.getElem?_eq_getElem (by simpa using hlt)]; rfl
      have HG := Lib.hid hgd
      have hx8 := s[a + k].toNat_lt
      generalize hx : s[a + k].toNat = x at HB hx8
      have hxg : (s.data.toList.getD (a + k) 0).toNat = x := by rw [hgd, hx]
      have hltl : a + k < s.data.toList.length := by simpa using hlt
      clear hx hgd HG
      by_cases hbad : 0 < k ∧ x = 0 ∨ k = 9 ∧ 1 < x
      · have HR := Lib.hid (HE.out.symm.trans (vgo_bad _ a k n x hk hltl hxg hbad))
        clear hxg hltl HE
        rcases hbad with ⟨h3, rfl⟩ | ⟨rfl, h3⟩
        · have hx4 : (0 : Int) < k := by omega
          go_wp2_with (go_at_call 30; refine HB.out.mono ?_; rintro e w1 ⟨rfl, h1⟩)
          go_ret2
          rw [HR.out]
          exact ⟨rfl, h1⟩
        · have hx4 : (1 : Int) < x := by omega
          have hx5 : ((x : Int) == 0) = false := by rw [beq_eq_false_iff_ne]; omega
          go_wp2_with (go_at_call 30; refine HB.out.mono ?_; rintro e w1 ⟨rfl, h1⟩)
          go_ret2
          rw [HR.out]
          exact ⟨rfl, h1⟩
      · have HR := Lib.hid (HE.out.symm.trans (vgo_step _ a k n x hk hltl hxg hbad))
        clear hxg hltl HE
        have h3 : k = 0 ∨ k = 9 ∧ x ≤ 1 ∨ (0 < k ∧ k < 9) := by omega
        have hor := or_group k n x (128 ^ k) rfl hk hn hx8 (by omega)
        have hN2 : n + x % 128 * 128 ^ k < 128 ^ (k + 1) := by
          have : x % 128 * 128 ^ k ≤ 127 * 128 ^ k := Nat.mul_le_mul_right _ (by omega)
          rw [Nat.pow_succ]; omega
        obtain ⟨N, hN⟩ : ∃ N, N = n + x % 128 * 128 ^ k := ⟨_, rfl⟩
        rw [← hN] at hor hN2 HR
        have HN2 := Lib.hid hN2
        have hx0 : 0 < k → x ≠ 0 := by omega
        clear hN hbad hN2
        rcases h3 with rfl | ⟨rfl, hx1⟩ | ⟨h3, h4⟩
        · rw [show (((128 : Nat) ^ 0 : Nat) : Int) = 1 from rfl, Int.mul_one] at hor
          by_cases h128 : x < 128
          · rw [if_pos h128] at HR
            go_wp2_with (go_at_call 30; refine HB.out.mono ?_; rintro e w1 ⟨rfl, h1⟩)
            go_ret2
            rw [HR.out]
            exact ⟨rfl, h1⟩
          · rw [if_neg h128] at HR
            go_wp2_with (go_at_call 30; refine HB.out.mono ?_; rintro e w1 ⟨rfl, h1⟩)
            go_roundw
            case rel => first | exact ⟨N, _, rfl, by go_num, by omega, HN2.out, by omega, Lib.hid HR.out.symm, h1⟩ | ((repeat apply Exists.intro); exact ⟨⟨N, _, rfl, by go_num, by omega, HN2.out, by omega, Lib.hid HR.out.symm, h1⟩, rfl⟩)
            case measure => first | (simp [intOf]; done) | (simp [intOf]; omega)
        · rw [show (((128 : Nat) ^ 9 : Nat) : Int) = 9223372036854775808 from rfl] at hor
          have hx2 : ¬ (1 : Int) < x := by omega
          have hx6 : x < 128 := by omega
          have hx5 : ((x : Int) == 0) = false := by have := hx0 (by omega); rw [beq_eq_false_iff_ne]; omega
          clear hx0
          rw [if_pos hx6] at HR
          go_wp2_with (go_at_call 30; refine HB.out.mono ?_; rintro e w1 ⟨rfl, h1⟩)
          all_goals go_ret2
          all_goals rw [HR.out]
          all_goals exact ⟨rfl, h1⟩
        · rw [show (((128 : Nat) ^ k : Nat) : Int) = 2 ^ (7 * k) by rw [show (128 : Nat) = 2 ^ 7 from rfl, ← Nat.pow_mul]; push_cast; rfl] at hor
          have hx2 : ((x : Int) == 0) = false := by have := hx0 h3; rw [beq_eq_false_iff_ne]; omega
          clear hx0
          have hx3 : ((k : Int) == 9) = false := by rw [beq_eq_false_iff_ne]; omega
          have hx4 : (0 : Int) < k := by omega
          by_cases h128 : x < 128
          · rw [if_pos h128] at HR
            go_wp2_with (go_at_call 30; refine HB.out.mono ?_; rintro e w1 ⟨rfl, h1⟩)
            go_ret2
            rw [HR.out]
            exact ⟨rfl, h1⟩
          · rw [if_neg h128] at HR
            go_wp2_with (go_at_call 30; refine HB.out.mono ?_; rintro e w1 ⟨rfl, h1⟩)
            go_roundw
            case rel => first | exact ⟨N, _, rfl, by go_num, by omega, HN2.out, by omega, Lib.hid HR.out.symm, h1⟩ | ((repeat apply Exists.intro); exact ⟨⟨N, _, rfl, by go_num, by omega, HN2.out, by omega, Lib.hid HR.out.symm, h1⟩, rfl⟩)
            case measure => first | (simp [intOf]; done) | (simp [intOf]; omega)
    · obtain ⟨q, hq⟩ : ∃ q, q = a + k := ⟨_, rfl⟩
      have hq2 : q = s.size := by omega
      have HR := Lib.hid (HE.out.symm.trans (vgo_end _ a k n hk (by rw [← hq, hq2]; simp)))
      rw [← hq] at h
      have HB := Lib.hid (byte_end_st h (by unfold maxLen; omega) hq2)
      have HQ := Lib.hid hq2
      clear hq hq2 HE hak hlt
      go_wp2_with (go_at_call 30; refine HB.out.mono ?_; rintro e w1 ⟨rfl, h1⟩)
      go_ret2
      rw [HR.out]
      refine ⟨rfl, ?_⟩
      rw [HQ.out] at h1
      simpa using h1
theorem vread_nil (w : World) : Calls Try.prog 29 #[.pointer none] w fun e w' => e = .returned (.tuple #[.int .u64 0, .int .i64 15]) ∧ w = w' := by
  go_enter Try.func29, Try.ntmps29
  go_wp2_with fail
  go_loop [2, 7] (fun vn vk => vn = .int .u64 0 ∧ vk = .int .i64 0) (fun _ vk => 10 - (intOf vk).toNat)
  case atStart => exact ⟨rfl, rfl⟩
  case round =>
    obtain ⟨rfl, rfl⟩ := hrel
    go_wp2_with (go_at_call 30; refine (byte_nil _).mono ?_; rintro e w1 ⟨rfl, rfl⟩)
    go_ret2
    exact ⟨rfl, rfl⟩
/-- c digits from the i-th on -/
def vtop (l : List UInt8) (a : Nat) : Nat → Nat → Nat
  | _, 0 => 0
  | i, c + 1 => (l.getD (a + i) 0).toNat % 128 + 128 * vtop l a (i + 1) c
theorem vtop_le (l : List UInt8) (a : Nat) : ∀ i c, vtop l a i c ≤ vtop l a 0 (i + c)
  | 0, c => by rw [Nat.zero_add]; exact Nat.le_refl _
  | i + 1, c => by
    have h := vtop_le l a i (c + 1)
    rw [vtop, show i + (c + 1) = i + 1 + c by omega] at h
    omega
theorem vtop_last (l : List UInt8) (a : Nat) : ∀ c i, vtop l a i (c + 1) = vtop l a i c + (l.getD (a + i + c) 0).toNat % 128 * 128 ^ c
  | 0, i => by simp [vtop]
  | c + 1, i => by
    rw [vtop, vtop_last l a c (i + 1), vtop, Nat.pow_succ, show a + (i + 1) + c = a + i + (c + 1) by omega]
    have : ∀ x y : Nat, 128 * (x * y) = x * (y * 128) := fun x y => by rw [Nat.mul_comm, Nat.mul_assoc]
    rw [Nat.mul_add, this]; omega
end Go.Proofs.Ytkjnpjkfagdegaa
