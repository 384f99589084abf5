/- The document's answers of layer 1: Take, Bytes, Four. -/
import Derived.Test.YtdgoaojojebpmaaRd
import Derived.Test.YtdgoaojojebpmaaWr
namespace Go.Proofs.Ytdgoaojojebpmaa
open Go.RowKit
set_option linter.unusedVariables false
set_option linter.unusedSimpArgs false

def rV (s : ByteArray) (a : Nat) : Value := .agg #[.string s, .int .i64 a]

set_option maxHeartbeats 1000000 in
theorem rtake_neg (s : ByteArray) (a : Nat) (n : Int) (hn : n < 0) (w : World) :
    Calls Try.prog 11 #[rV s a, .int .i64 n] w fun e w' => e = .returned (.tuple #[.string ⟨#[]⟩, .int .i64 1, rV s a]) ∧ Ext w w' := by
  unfold rV
  go_enter Try.func11, Try.ntmps11
  go_wp2
  go_region
  all_goals go_wp2
  refine bodyPost_ret (v := .tuple #[.string ⟨#[]⟩, .int .i64 1, .agg #[.string s, .int .i64 a]]) (by simp [results, Try.results11, go_sem]) rfl ⟨rfl, ?_⟩
  (repeat (first | exact Mut.refl _ _ | assumption | apply Mut.alloc | apply Mut.drew | refine Mut.trans ?_ (After.ext _) | refine Mut.trans ?_ (by assumption)))
set_option maxHeartbeats 1000000 in
theorem rtake_end (s : ByteArray) (a : Nat) (n : Int) (ha : a ≤ s.size) (hs : s.size ≤ maxLen) (hn0 : 0 ≤ n) (hn : (s.size : Int) - a < n) (w : World) :
    Calls Try.prog 11 #[rV s a, .int .i64 n] w fun e w' => e = .returned (.tuple #[.string ⟨#[]⟩, .int .i64 2, rV s a]) ∧ Ext w w' := by
  unfold rV
  unfold maxLen at hs
  go_enter Try.func11, Try.ntmps11
  go_wp2
  go_region
  all_goals go_wp2
  refine bodyPost_ret (v := .tuple #[.string ⟨#[]⟩, .int .i64 2, .agg #[.string s, .int .i64 a]]) (by simp [results, Try.results11, go_sem]) rfl ⟨rfl, ?_⟩
  (repeat (first | exact Mut.refl _ _ | assumption | apply Mut.alloc | apply Mut.drew | refine Mut.trans ?_ (After.ext _) | refine Mut.trans ?_ (by assumption)))
set_option maxHeartbeats 1000000 in
theorem rtake_ok (s : ByteArray) (a : Nat) (n : Nat) (hs : s.size ≤ maxLen) (hn : a + n ≤ s.size) (w : World) :
    Calls Try.prog 11 #[rV s a, .int .i64 n] w fun e w' => e = .returned (.tuple #[.string (s.extract a (a + n)), .int .i64 0, rV s (a + n)]) ∧ Ext w w' := by
  unfold rV
  unfold maxLen at hs
  go_enter Try.func11, Try.ntmps11
  go_wp2
  go_region
  all_goals go_wp2
  refine bodyPost_ret (v := .tuple #[.string (s.extract a (a + n)), .int .i64 0, .agg #[.string s, .int .i64 ((a : Int) + n)]]) (by simp [results, Try.results11, go_sem]) rfl ⟨by simp, ?_⟩
  (repeat (first | exact Mut.refl _ _ | assumption | apply Mut.alloc | apply Mut.drew | refine Mut.trans ?_ (After.ext _) | refine Mut.trans ?_ (by assumption)))

/-- where the rounds of 'Bytes' stand -/
def le4k (n k : Nat) : List UInt8 := (le4 n).take k ++ List.replicate (4 - k) 0
theorem le4k_0 (n : Nat) : le4k n 0 = [0, 0, 0, 0] := rfl
theorem le4k_4 (n : Nat) : le4k n 4 = le4 n := by simp [le4k, le4]
theorem le4k_set (n k : Nat) (h : k < 4) : (le4k n k).set k (UInt8.ofNat (n / 256 ^ k)) = le4k n (k + 1) := by
  match k, h with
  | 0, _ => simp [le4k, le4]
  | 1, _ => simp [le4k, le4]
  | 2, _ => simp [le4k, le4]
  | 3, _ => simp [le4k, le4]
set_option maxHeartbeats 1000000 in
theorem rbytes_any (n : Nat) (hn : n < 4294967296) (w : World) :
    Calls Try.prog 14 #[.int .u32 n] w fun e w' => e = .returned (.string ⟨(le4 n).toArray⟩) ∧ Ext w w' := by
  go_enter Try.func14, Try.ntmps14
  go_wp2
  go_loopw [0, 4] (fun vn vi wr => ∃ k m : Nat, k ≤ 4 ∧ m < 4294967296 ∧ vn = .int .u32 m ∧ vi = .int .i64 k ∧ Ext w wr ∧ w.heap.size < wr.heap.size ∧ Hid (m = n / 256 ^ k) ∧ Hid (wr.heap[w.heap.size]? = some (.cells (bytesV (le4k n k)).toArray 5 (0, 0)))) (fun _ vi _ => 4 - (intOf vi).toNat)
  case atStart => exact ⟨0, n, by omega, hn, rfl, rfl, (Mut.refl _ _).alloc _, by simp, Lib.hid (by simp), Lib.hid (heap_alloc_self _ _)⟩
  case round =>
    obtain ⟨k, m, hk, hm, rfl, rfl, hx, hsz, hM, hh⟩ := hrel
    have hlen : (le4k n k).length = 4 := by simp [le4k, le4]; omega
    by_cases hlt : k < 4
    · have hf := free_of_heap hh.out k
      have hcl := cells_of_row hh.out k (by omega)
      have hset := heap_setCell hh.out k (.int .u8 ((m : Int) % 256))
      rw [show (bytesV (le4k n k)).toArray.setIfInBounds k (.int .u8 ((m : Int) % 256)) = (bytesV (le4k n (k + 1))).toArray by
        rw [← le4k_set n k hlt, ← bytesV_set, bv_ofNat, ← hM.out]; simp] at hset
      have hset2 := Lib.hid hset; clear hset
      have hM2 := Lib.hid (show m / 256 = n / 256 ^ (k + 1) by rw [hM.out, Nat.div_div_eq_div_mul, Nat.pow_succ])
      unfold bv at hcl
      go_wp2
      go_roundw
      case rel => exact ⟨k + 1, m / 256, by omega, by omega, by simp, by go_num, hx.setCell (.inl (Nat.le_refl _)) _, by simpa using hsz, hM2, hset2⟩
      case measure => simp [intOf] <;> omega
    · obtain rfl : k = 4 := by omega
      rw [le4k_4] at hh
      have hcv := run_string_of_row (P := Try.prog) wr _ _ Try.underlying36 Try.underlying5 w.heap.size 4 4 (le4 n) rfl (cells_of_row hh.out) _ Try.underlying9
      go_wp2
      go_ret
      exact ⟨rfl, hx⟩

def fourTop (s : ByteArray) : Nat → Nat
  | 0 => 0
  | k + 1 => fourTop s k * 256 + (s.data.toList.getD (3 - k) 0).toNat
theorem fourTop_lt (s : ByteArray) : ∀ k, fourTop s k < 256 ^ k
  | 0 => by simp [fourTop]
  | k + 1 => by
    have := fourTop_lt s k
    have h := (s.data.toList.getD (3 - k) 0).toNat_lt
    simp only [fourTop, Nat.pow_succ]
    omega
theorem fourTop_4 (s : ByteArray) (h : s.size = 4) : fourTop s 4 = four s[0] s[1] s[2] s[3] := by
  have e : ∀ i (hi : i < s.size), s.data.toList.getD i 0 = s[i] := by
    intro i hi
    rw [List.getD_eq_getElem?_getD, List.getElem?_eq_getElem (by simpa using hi)]; rfl
  simp only [fourTop, four]
  rw [e 0 (by omega), e 1 (by omega), e 2 (by omega), e 3 (by omega)]
  omega
set_option maxHeartbeats 1000000 in
theorem rfour_any (s : ByteArray) (hs : s.size = 4) (w : World) :
    Calls Try.prog 21 #[.string s] w fun e w' => e = .returned (.int .u32 (four s[0] s[1] s[2] s[3] : Nat)) ∧ w = w' := by
  have h4 := Lib.hid (fourTop_4 s hs)
  go_enter Try.func21, Try.ntmps21
  go_wp2
  go_loop [3, 4] (fun vn vi => ∃ k m : Nat, k ≤ 4 ∧ m < 4294967296 ∧ vn = .int .u32 m ∧ vi = .int .i64 (3 - (k : Int)) ∧ Hid (m = fourTop s k)) (fun _ vi => (intOf vi + 1).toNat)
  case atStart => exact ⟨0, 0, by omega, by omega, rfl, rfl, Lib.hid rfl⟩
  case round =>
    obtain ⟨k, m, hk, hm, rfl, rfl, hM⟩ := hrel
    by_cases hlt : k < 4
    · have hlt2 := fourTop_lt s (k + 1)
      have hlt3 : fourTop s (k + 1) < 4294967296 := Nat.lt_of_lt_of_le hlt2 (show 256 ^ (k + 1) ≤ 256 ^ 4 from Nat.pow_le_pow_right (by omega) (by omega))
      have hi : 3 - k < s.size := by omega
      have he : s.data.toList.getD (3 - k) 0 = s[3 - k] := by
        rw [List.getD_eq_getElem?_getD, List.getElem?_eq_getElem (by simpa using hi)]; rfl
      have hstep : m * 256 + s[3 - k].toNat = fourTop s (k + 1) := by rw [hM.out, ← he]; rfl
      rw [← hstep] at hlt3
      have hS := Lib.hid hstep
      clear hlt2 he hstep
      obtain ⟨j, hj⟩ : ∃ j : Nat, (3 : Int) - (k : Int) = j := ⟨3 - k, by omega⟩
      obtain rfl : j = 3 - k := by omega
      have HJ := Lib.hid hj
      rw [hj]
      clear hj
      go_wp2
      go_round
      case rel => exact ⟨k + 1, m * 256 + s[3 - k].toNat, by omega, hlt3, iv (by omega), iv (by omega), hS⟩
      case measure => simp [intOf] <;> omega
    · obtain rfl : k = 4 := by omega
      have hm2 : m = four s[0] s[1] s[2] s[3] := hM.out.trans h4.out
      go_wp2
      go_ret
      exact ⟨rfl, rfl⟩
end Go.Proofs.Ytdgoaojojebpmaa
