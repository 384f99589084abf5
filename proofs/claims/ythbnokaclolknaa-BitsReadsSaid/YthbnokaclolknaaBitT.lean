/- Layer 6's reader: Take and Done. -/
import Derived.Test.YthbnokaclolknaaBitR
namespace Go.Proofs.Ythbnokaclolknaa
open Go.RowKit
set_option linter.unusedVariables false
set_option linter.unusedSimpArgs false
section
variable {S : Nat → Prop} {W w : World} {M : List Thing} {b : Nat} {L : List Bool} {s : ByteArray} {a : Nat}
theorem btake_nil (c : Int) (w : World) : Calls Try.prog 16 #[.pointer none, .int .i64 c] w fun e w' => e = .returned (.tuple #[.int .u64 0, .int .i64 15]) ∧ w = w' := by
  go_enter Try.func16, Try.ntmps16
  go_wp2
  go_ret2
  exact ⟨rfl, rfl⟩
theorem btake_arg (c : Int) (hc : c < 0 ∨ 64 < c) (w : World) : Calls Try.prog 16 #[.pointer (some ⟨b, 0, none⟩), .int .i64 c] w fun e w' => e = .returned (.tuple #[.int .u64 0, .int .i64 1]) ∧ w = w' := by
  go_enter Try.func16, Try.ntmps16
  rcases hc with hc | hc
  · go_wp2
    go_ret2
    exact ⟨rfl, rfl⟩
  · have : ¬ c < 0 := by omega
    go_wp2
    go_ret2
    exact ⟨rfl, rfl⟩
theorem btake_end (h : St S W w (brT b s a :: M)) (ha : a ≤ 8 * s.size) (hs : s.size ≤ 140737488355328) (c : Nat) (hc : c ≤ 64) (he : 8 * s.size < a + c) :
    Calls Try.prog 16 #[.pointer (some ⟨b, 0, none⟩), .int .i64 c] w fun e w' => e = .returned (.tuple #[.int .u64 0, .int .i64 2]) ∧ Ext w w' := by
  have H := Lib.hid (bleft_st h ha hs)
  have h1 : ¬ (c : Int) < 0 := by omega
  have h2 : ¬ (64 : Int) < c := by omega
  have h3 : ((8 * s.size - a : Nat) : Int) < c := by omega
  generalize 8 * s.size - a = d at h3 H
  clear h
  go_enter Try.func16, Try.ntmps16
  go_wp2_with (go_at_call 20; refine H.out.mono ?_; rintro e w1 ⟨rfl, hx⟩)
  go_ret2
  exact ⟨rfl, hx⟩
set_option maxHeartbeats 1000000 in
theorem btake_st (h : St S W w (brT b s a :: M)) (hs : s.size ≤ 140737488355328) (c : Nat) (hc : c ≤ 64) (he : a + c ≤ 8 * s.size) :
    Calls Try.prog 16 #[.pointer (some ⟨b, 0, none⟩), .int .i64 c] w fun e w' => e = .returned (.tuple #[.int .u64 (nm (sb s.data.toList) a c : Nat), .int .i64 0]) ∧ St S W w' (brT b s (a + c) :: M) := by
  have H := Lib.hid (bleft_st h (by omega) hs)
  have h1 : ¬ (c : Int) < 0 := by omega
  have h2 : ¬ (64 : Int) < c := by omega
  have h3 : ¬ ((8 * s.size - a : Nat) : Int) < c := by omega
  generalize 8 * s.size - a = d at h3 H
  have h3b : decide (d < c) = false := by simp; omega
  go_enter Try.func16, Try.ntmps16
  go_wp2_with (go_at_call 20; refine H.out.mono ?_; rintro e w1 ⟨rfl, hx⟩)
  have h4 := h.ext hx
  go_loopw [4, 22] (fun vn vi wr => ∃ k : Nat, k ≤ c ∧ vn = .int .u64 (nm (sb s.data.toList) a k : Nat) ∧ vi = .int .i64 k ∧ St S W wr (brT b s (a + k) :: M)) (fun _ vi _ => c - (intOf vi).toNat)
  case atStart => exact ⟨0, by omega, rfl, rfl, h4⟩
  case round =>
    clear h h4 hx H
    obtain ⟨k, hk, rfl, rfl, h⟩ := hrel
    by_cases hlt : k < c
    · have HN := Lib.hid (bnext_st h (by omega) hs)
      have hnl := nm_lt (sb s.data.toList) a k
      have hp : 2 ^ k ≤ 2 ^ 63 := Nat.pow_le_pow_right (by omega) (by omega)
      have HE := Lib.hid (show nm (sb s.data.toList) a (k + 1) = nm (sb s.data.toList) a k * 2 + (sb s.data.toList (a + k)).toNat from rfl)
      have hb : (sb s.data.toList (a + k)).toNat ≤ 1 := Bool.toNat_le _
      generalize (sb s.data.toList (a + k)).toNat = bit at HN HE hb
      obtain ⟨x, hx⟩ : ∃ x, x = nm (sb s.data.toList) a k := ⟨_, rfl⟩
      rw [← hx] at hnl HE ⊢
      have hxb : x < 9223372036854775808 := by omega
      have hor : bits .or .u64 ((x : Int) * 2) (bit : Int) = ((x * 2 + bit : Nat) : Int) := by
        rw [show (x : Int) * 2 = ((x * 2 : Nat) : Int) by omega, u64_or_nat _ _ (by omega) (by omega), nat_join 1 (x * 2) bit (by omega) (by omega)]
      clear hx hp hnl h
      go_wp2_with (go_at_call 21; refine HN.out.mono ?_; rintro e w2 ⟨rfl, h5⟩)
      go_roundw
      case rel => first | (refine ⟨k + 1, by omega, ?_, by go_num, h5⟩; exact iv (by rw [HE.out]; push_cast; omega)) | ((repeat apply Exists.intro); refine ⟨⟨k + 1, by omega, ?_, by go_num, h5⟩, rfl⟩; exact iv (by rw [HE.out]; push_cast; omega))
      case measure => simp [intOf]; omega
    · obtain rfl : k = c := by omega
      go_wp2_with fail
      go_ret2
      exact ⟨rfl, h⟩

/-- nothing is left but less than eight noughts -/
def rest0 (l : List UInt8) (a : Nat) : Prop := 8 * l.length - a < 8 ∧ ∀ i, i < 8 * l.length - a → sb l (a + i) = false
end
end Go.Proofs.Ythbnokaclolknaa
