/- BitsJoins: the walk. -/
import Derived.Test.YthbnokaclolknaaBitA
namespace Go.Proofs.Ythbnokaclolknaa
open Go.RowKit
set_option linter.unusedVariables false
set_option linter.unusedSimpArgs false
theorem bitsOf_join (n a b : Nat) : bitsOf (n / 2 ^ b) a ++ bitsOf n b = bitsOf n (a + b) := by
  apply List.ext_getElem?
  intro i
  rcases Nat.lt_or_ge i a with hi | hi
  · rw [List.getElem?_append_left (by rw [bitsOf_len]; exact hi)]
    simp only [bitsOf, List.getElem?_map, List.getElem?_range hi, List.getElem?_range (show i < a + b by omega), Option.map_some]
    rw [Nat.testBit_div_two_pow, show a - 1 - i + b = a + b - 1 - i by omega]
  · rw [List.getElem?_append_right (by rw [bitsOf_len]; exact hi), bitsOf_len]
    rcases Nat.lt_or_ge i (a + b) with h2 | h2
    · simp only [bitsOf, List.getElem?_map, List.getElem?_range (show i - a < b by omega), List.getElem?_range h2, Option.map_some]
      rw [show b - 1 - (i - a) = a + b - 1 - i by omega]
    · rw [List.getElem?_eq_none (by rw [bitsOf_len]; omega), List.getElem?_eq_none (by rw [bitsOf_len]; omega)]
theorem mod33 (a : Int) : ∃ A : Nat, A ≤ 32 ∧ (IntKind.u64.wrap a).tmod 33 = (A : Int) := by
  rw [IntKind.wrap_u64, Int.tmod_eq_emod_of_nonneg (by omega)]
  exact ⟨((a % 18446744073709551616) % 33).toNat, by omega, by omega⟩
theorem bytes_read (L : List Bool) (i : Nat) (h : i < L.length) : sb ((⟨(pack L).toArray⟩ : ByteArray)).data.toList i = gd L i := by
  show sb (pack L) i = _
  rw [pack_eq, sb_cbytes _ _ _ (by omega)]
theorem packed_size (L : List Bool) : ((⟨(pack L).toArray⟩ : ByteArray)).size = (L.length + 7) / 8 := by
  rw [← data_len]; exact pack_len L
set_option maxHeartbeats 4000000 in
theorem bitsJoins_walk (n : Nat) (a b : Int) (hn : n < 18446744073709551616) (ha : -9223372036854775808 ≤ a ∧ a < 9223372036854775808) (hb : -9223372036854775808 ≤ b ∧ b < 9223372036854775808) (w : World) :
    Calls Try.prog 6 #[.int .u64 n, .int .i64 a, .int .i64 b] w fun e w' => e = .returned (.bool true) ∧ Ext w w' := by
  go_enter Try.func6, Try.ntmps6
  obtain ⟨A, hA, eA⟩ := mod33 a
  obtain ⟨B, hB, eB⟩ := mod33 b
  go_wp2_with fail
  have h := (((St.start noB w).newBw).newBw).swap
  rw [World.size_alloc] at h
  obtain ⟨x, hx⟩ : ∃ x, x = w.heap.size := ⟨_, rfl⟩
  obtain ⟨y, hy⟩ : ∃ y, y = x + 1 := ⟨_, rfl⟩
  rw [← hx] at h ⊢
  rw [← hy] at h ⊢
  clear hx hy eA eB
  generalize (w.alloc (.cells #[.slice none 0 0, .int .i64 0] 26)).alloc (.cells #[.slice none 0 0, .int .i64 0] 26) = w1 at h ⊢
  refine (bawake_any _).mono ?_
  rintro e w2 ⟨rfl, hx⟩
  have h := h.ext hx
  clear hx
  have HJ := Lib.hid (bitsOf_join n A B)
  have hdl : n / 2 ^ B < 18446744073709551616 := Nat.lt_of_le_of_lt (Nat.div_le_self _ _) hn
  have ED := Lib.hid (show (n : Int) / 2 ^ B = ((n / 2 ^ B : Nat) : Int) by push_cast; rfl)
  go_wp2_with fail
  rw [ED.out]
  refine (bput_st h (n / 2 ^ B) A hdl (by omega) (by simp; omega)).mono ?_
  rintro e w3 ⟨rfl, h3⟩
  go_wp2_with fail
  refine (bput_st h3 n B hn (by omega) (by rw [List.nil_append, bitsOf_len]; omega)).mono ?_
  rintro e w4 ⟨rfl, h4⟩
  go_wp2_with fail
  refine (bput_st h4.swap n (A + B) hn (by omega) (by simp; omega)).mono ?_
  rintro e w5 ⟨rfl, h5⟩
  rw [List.nil_append, List.nil_append, HJ.out] at h5
  clear h h3 h4 ED HJ
  obtain ⟨L, hL⟩ : ∃ L, L = bitsOf n (A + B) := ⟨_, rfl⟩
  have hlen : L.length = A + B := by rw [hL, bitsOf_len]
  rw [← hL] at h5
  have HN := Lib.hid hlen
  clear hL hlen
  go_wp2_with fail
  refine (bstr_st h5.swap).mono ?_
  rintro e w6 ⟨rfl, rfl⟩
  obtain ⟨s, hs⟩ : ∃ s : ByteArray, s = ⟨(pack L).toArray⟩ := ⟨_, rfl⟩
  have hsz : s.size = (A + B + 7) / 8 := by rw [hs, packed_size, HN.out]
  rw [← hs]
  have HS := Lib.hid hs
  have HZ := Lib.hid hsz
  have hsl : s.size ≤ 9 := by omega
  clear hs hsz
  go_wp2_with fail
  refine (bnew_st h5 s).mono ?_
  rintro e w6 ⟨rfl, h6, z6⟩
  generalize w5.heap.size = r at h6 ⊢
  go_wp2_with fail
  refine (bstr_st (h6.pull 2)).mono ?_
  rintro e w7 ⟨rfl, rfl⟩
  rw [← HS.out]
  go_wp2_with fail
  refine (bnew_st h6 s).mono ?_
  rintro e w7 ⟨rfl, h7, z7⟩
  generalize w6.heap.size = q at h7 ⊢
  clear z6 z7 h5 h6
  go_wp2_with fail
  refine (btake_st h7.swap (by omega) A (by omega) (by rw [HZ.out]; omega)).mono ?_
  rintro e w8 ⟨rfl, h8⟩
  rw [Nat.zero_add] at h8
  go_wp2_with fail
  refine (btake_st h8 (by omega) B (by omega) (by rw [HZ.out]; omega)).mono ?_
  rintro e w9 ⟨rfl, h9⟩
  go_wp2_with fail
  refine (btake_st h9.swap (by omega) (A + B) (by omega) (by rw [HZ.out]; omega)).mono ?_
  rintro e w10 ⟨rfl, h10⟩
  clear h7 h8 h9
  go_wp2_with fail
  have e1 := nm_add (sb s.data.toList) 0 A B
  rw [Nat.zero_add] at e1
  have e2 := nm_lt (sb s.data.toList) A B
  have e3 := nm_lt (sb s.data.toList) 0 (A + B)
  have e4 : 2 ^ (A + B) ≤ 2 ^ 64 := Nat.pow_le_pow_right (by omega) (by omega)
  generalize nm (sb s.data.toList) 0 A = hv at e1 ⊢
  generalize nm (sb s.data.toList) A B = lv at e1 e2 ⊢
  generalize nm (sb s.data.toList) 0 (A + B) = mv at e1 e3 ⊢
  obtain ⟨hs, hhs⟩ : ∃ hs, hs = hv * 2 ^ B := ⟨_, rfl⟩
  have hsb : hs < 18446744073709551616 := by omega
  have hw : IntKind.u64.wrap ((hv : Int) * 2 ^ B) = (hs : Int) := by
    rw [IntKind.wrap_u64, hhs]
    push_cast
    rw [show ((hv : Int) * 2 ^ B) = ((hv * 2 ^ B : Nat) : Int) by push_cast; rfl]
    omega
  have hor : bits .or .u64 (hs : Int) (lv : Int) = (mv : Int) := by
    rw [u64_or_nat _ _ (by omega) (by omega), nat_join B hs lv (by rw [hhs]; exact Nat.mul_mod_left _ _) e2, e1, hhs]
  clear e1 e2 e3 e4 hhs
  refine (bstr_st (h10.pull 3)).mono ?_
  rintro e w11 ⟨rfl, rfl⟩
  rw [← HS.out]
  go_wp2_with fail
  refine (bstr_st (h10.pull 2)).mono ?_
  rintro e w11 ⟨rfl, rfl⟩
  rw [← HS.out]
  go_wp2_with fail
  go_ret
  exact ⟨rfl, h10.ends⟩
end Go.Proofs.Ythbnokaclolknaa
