/- The walks of layer 5's functions: Sum, By, and the document's Sum. -/
import Derived.Test.YtebpcknloakjfaaWalkB
namespace Go.Proofs.Ytebpcknloakjfaa
open Go.RowKit
set_option linter.unusedVariables false

set_option maxRecDepth 20000 in
set_option maxHeartbeats 400000 in
theorem sum_any (t : Nat → Nat) (ht : ∀ i, i < 256 → t i < 4294967296) (s : ByteArray) (hsz : s.size ≤ maxLen) (w : World) :
    Calls Try.prog 11 #[.agg (tabV t), .string s] w fun e w' => e = .returned (.int .u32 (cmore t 0 s.data.toList : Nat)) ∧ Ext w w' := by
  go_enter Try.func11, Try.ntmps11
  go_wp2_with (first
    | (refine wpList_load_row rfl _ _ rfl w.heap.size rfl 23 (tabV t) (0, 0) (.array 256 22) (heap_alloc_self _ _) Try.underlying23 rfl (size23 _) ?_)
    | (go_at_call 14; refine (more_any t ht 0 (by decide) s hsz _).mono ?_; rintro e w' ⟨rfl, hx⟩))
  go_ret
  exact ⟨rfl, ((Mut.refl _ _).alloc _).trans hx⟩

set_option maxRecDepth 20000 in
set_option maxHeartbeats 400000 in
theorem by_any (t : Nat → Nat) (ht : ∀ i, i < 256 → t i < 4294967296) (s : ByteArray) (hsz : s.size ≤ maxLen) (w : World) :
    Calls Try.prog 13 #[.agg (tabV t), .string s] w fun e w' => e = .returned (.int .u32 (cmore t 0 s.data.toList : Nat)) ∧ Ext w w' := by
  unfold maxLen at hsz
  go_enter Try.func13, Try.ntmps13
  go_wp2
  go_loop [5, 6] (fun vn vi => ∃ (k n : Nat), k ≤ s.size ∧ n < 4294967296 ∧ vi = .int .i64 k ∧ vn = .int .u32 n ∧ Hid (FoldAt t ones s k n)) (fun _ vi => s.size - (intOf vi).toNat)
  case atStart => exact ⟨0, ones, by omega, ones_lt, rfl, rfl, Lib.hid rfl⟩
  case round =>
    obtain ⟨k, n, hk, hn, rfl, rfl, H⟩ := hrel
    by_cases hlt : k < s.size
    · have H2 := Lib.hid (H.out.next hlt)
      have hl := cstep_lt t ht hn s[k].toNat_lt
      have hb := xor8_lt n s[k].toNat s[k].toNat_lt
      have hu := s[k].toNat_lt
      have hxx : ((n ^^^ s[k].toNat : Nat) : Int) % 256 = (((n % 256) ^^^ s[k].toNat : Nat) : Int) := by
        rw [show (256 : Int) = ((256 : Nat) : Int) from rfl, ← Int.natCast_emod]
        congr 1
        rw [show (256 : Nat) = 2 ^ 8 from rfl, Nat.xor_mod_two_pow, Nat.mod_eq_of_lt (a := s[k].toNat) hu]
      have hc : ((w.alloc (Obj.cells (tabV t) 23)).cell? ⟨w.heap.size, (n % 256) ^^^ s[k].toNat, none⟩) = some (.int .u32 (t ((n % 256) ^^^ s[k].toNat))) := by
        rw [← tabV_get t _ hb]; simp
      have htt := ht _ hb
      have e2 := Lib.hid (show (n : Int) / 256 = ((n / 256 : Nat) : Int) by omega)
      have hm := Nat.mod_lt n (show 0 < 256 by omega)
      go_wp2_with fail
      refine (xor_any n s[k].toNat hn (by omega) _).mono ?_
      rintro e w' ⟨rfl, rfl⟩
      go_wp2_with fail
      rw [e2.out]
      refine (xor_any (n / 256) _ (by omega) htt _).mono ?_
      rintro e w' ⟨rfl, rfl⟩
      go_wp2_with fail
      go_round
      case rel => exact ⟨k + 1, _, by omega, hl, by go_num, rfl, H2⟩
      case measure => simp [intOf]; omega
    · obtain rfl : k = s.size := by omega
      have hl := H.out
      unfold FoldAt at hl
      rw [take_all] at hl
      have hq : (n ^^^ ones : Nat) = cmore t 0 s.data.toList := by rw [hl]; unfold cmore; rw [Nat.zero_xor]
      clear hl
      have hQ := Lib.hid hq; clear hq
      go_wp2_with fail
      refine (xor_any n ones hn ones_lt _).mono ?_
      rintro e w' ⟨rfl, rfl⟩
      have hq := hQ.out
      go_wp2
      go_ret
      exact ⟨rfl, (Mut.refl _ _).alloc _⟩

/-- where the eight rounds of a byte stand -/
def BitsAt (n0 c0 j n c : Nat) : Prop := bits8 8 n0 c0 = bits8 (8 - j) n c
theorem BitsAt.next {n0 c0 j n c : Nat} (h : BitsAt n0 c0 j n c) (hj : j < 8) : BitsAt n0 c0 (j + 1) (bstep n c) (c / 2) := by
  unfold BitsAt at h ⊢
  rw [h, show 8 - j = (8 - (j + 1)) + 1 by omega]; rfl
theorem bstep_eq {n c : Nat} (h : n % 2 = c % 2) : bstep n c = n / 2 := by unfold bstep; rw [if_neg (by omega)]
theorem bstep_ne {n c : Nat} (h : ¬ n % 2 = c % 2) : bstep n c = n / 2 ^^^ poly := by unfold bstep; rw [if_pos h]

set_option maxRecDepth 20000 in
set_option maxHeartbeats 1000000 in
theorem refSum_any (s : ByteArray) (hsz : s.size ≤ maxLen) (w : World) :
    Calls Try.prog 12 #[.string s] w fun e w' => e = .returned (.int .u32 (cmore ent 0 s.data.toList : Nat)) ∧ w = w' := by
  unfold maxLen at hsz
  have ht : ∀ i, i < 256 → ent i < 4294967296 := fun i hi => ent_lt (by omega)
  go_enter Try.func12, Try.ntmps12
  go_wp2
  go_loop [3, 4] (fun vn vi => ∃ (k n : Nat), k ≤ s.size ∧ n < 4294967296 ∧ vi = .int .i64 k ∧ vn = .int .u32 n ∧ Hid (FoldAt ent ones s k n)) (fun _ vi => s.size - (intOf vi).toNat)
  case atStart => exact ⟨0, ones, by omega, ones_lt, rfl, rfl, Lib.hid rfl⟩
  case round =>
    obtain ⟨k, n, hk, hn, rfl, rfl, H⟩ := hrel
    by_cases hlt : k < s.size
    · have H2 := Lib.hid (H.out.next hlt)
      have hl := cstep_lt ent ht hn s[k].toNat_lt
      have hu := s[k].toNat_lt
      go_wp2
      go_loop [3, 5, 6] (fun vn vc vj => ∃ (j m c : Nat), j ≤ 8 ∧ m < 4294967296 ∧ c < 256 ∧ vj = .int .i64 j ∧ vn = .int .u32 m ∧ vc = .int .u32 c ∧ Hid (BitsAt n s[k].toNat j m c)) (fun _ _ vj => 8 - (intOf vj).toNat)
      case atStart => exact ⟨0, n, s[k].toNat, by omega, hn, by omega, rfl, rfl, rfl, Lib.hid rfl⟩
      case round =>
        obtain ⟨j, m, c, hj, hm, hc, rfl, rfl, rfl, G⟩ := hrel
        by_cases hjt : j < 8
        · have G2 := G.out.next hjt
          have hbl := bstep_lt c hm
          by_cases hx : m % 2 = c % 2
          · rw [bstep_eq hx] at G2 hbl
            have G3 := Lib.hid G2; clear G2
            have hd : ((m : Int) % 2 != (c : Int) % 2) = false := by simp; omega
            go_wp2
            all_goals go_round
            case rel => exact ⟨j + 1, _, _, by omega, hbl, by omega, by go_num, iv (by omega), iv (by omega), G3⟩
            case measure => simp [intOf]; omega
          · rw [bstep_ne hx] at G2 hbl
            have G3 := Lib.hid G2; clear G2
            have hd : ((m : Int) % 2 != (c : Int) % 2) = true := by simp; omega
            go_wp2_with (go_at_call 16; rw [show (m : Int) / 2 = ((m / 2 : Nat) : Int) by omega]; refine (xor_any _ 3988292384 (by omega) (by decide) _).mono ?_; rintro e w' ⟨rfl, rfl⟩)
            all_goals go_round
            case rel => exact ⟨j + 1, _, _, by omega, hbl, by omega, by go_num, rfl, iv (by omega), G3⟩
            case measure => simp [intOf]; omega
        · obtain rfl : j = 8 := by omega
          have hg : cstep ent n s[k].toNat = m := by rw [← bits8_ent _ _ hu]; exact G.out
          rw [hg] at H2
          clear hg hl
          go_wp2
          go_round
          case rel => exact ⟨k + 1, m, by omega, hm, by go_num, rfl, H2⟩
          case measure => simp [intOf]; omega
    · obtain rfl : k = s.size := by omega
      have hl := H.out
      unfold FoldAt at hl
      rw [take_all] at hl
      have hq : (n ^^^ ones : Nat) = cmore ent 0 s.data.toList := by rw [hl]; unfold cmore; rw [Nat.zero_xor]
      clear hl
      have hQ := Lib.hid hq; clear hq
      go_wp2_with fail
      refine (xor_any n ones hn ones_lt _).mono ?_
      rintro e w' ⟨rfl, rfl⟩
      have hq := hQ.out
      go_wp2
      go_ret
      exact ⟨rfl, rfl⟩
end Go.Proofs.Ytebpcknloakjfaa
